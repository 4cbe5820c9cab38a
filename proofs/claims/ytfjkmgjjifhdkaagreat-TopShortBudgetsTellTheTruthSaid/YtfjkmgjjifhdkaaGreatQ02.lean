/-
  CostWalkO, CostLaw, CostLaw3, CostMB, CxCost, Open, CostFrame: what the further laws want besides. No conditions.
-/
import Derived.Test.YtfjkmgjjifhdkaaGreatP01
import Derived.Test.YtfjkmgjjifhdkaaGreatP02
import Derived.Test.YtfjkmgjjifhdkaaGreatP03
import Derived.Test.YtfjkmgjjifhdkaaGreatP04
import Derived.Test.YtfjkmgjjifhdkaaGreatP05
import Derived.Test.YtfjkmgjjifhdkaaGreatP06
import Derived.Test.YtfjkmgjjifhdkaaGreatP07
import Derived.Test.YtfjkmgjjifhdkaaGreatP08
import Derived.Test.YtfjkmgjjifhdkaaGreatP09
import Derived.Test.YtfjkmgjjifhdkaaGreatP10
import Derived.Test.YtfjkmgjjifhdkaaGreatP11
import Derived.Test.YtfjkmgjjifhdkaaGreatP12
import Derived.Test.YtfjkmgjjifhdkaaGreatP13
import Derived.Test.YtfjkmgjjifhdkaaGreatP14
import Derived.Test.YtfjkmgjjifhdkaaGreatP15
import Derived.Test.YtfjkmgjjifhdkaaGreatP16
import Derived.Test.YtfjkmgjjifhdkaaGreatP17
import Derived.Test.YtfjkmgjjifhdkaaGreatP18
import Derived.Test.YtfjkmgjjifhdkaaGreatP19
import Derived.Test.YtfjkmgjjifhdkaaGreatP20
import Derived.Test.YtfjkmgjjifhdkaaGreatP21
import Derived.Test.YtfjkmgjjifhdkaaGreatP22
import Derived.Test.YtfjkmgjjifhdkaaGreatP23
import Derived.Test.YtfjkmgjjifhdkaaGreatP24
import Derived.Test.YtfjkmgjjifhdkaaGreatP25
import Derived.Test.YtfjkmgjjifhdkaaGreatP26
import Derived.Test.YtfjkmgjjifhdkaaGreatP27
import Derived.Test.YtfjkmgjjifhdkaaGreatP28
import Derived.Test.YtfjkmgjjifhdkaaGreatP29
import Derived.Test.YtfjkmgjjifhdkaaGreatP30
import Derived.Test.YtfjkmgjjifhdkaaGreatP31
import Derived.Test.YtfjkmgjjifhdkaaGreatP32
import Derived.Test.YtfjkmgjjifhdkaaGreatP33
import Derived.Test.YtfjkmgjjifhdkaaGreatP34
import Derived.Test.YtfjkmgjjifhdkaaGreatP35
import Derived.Test.YtfjkmgjjifhdkaaGreatP36
import Derived.Test.YtfjkmgjjifhdkaaGreatP37
import Derived.Test.YtfjkmgjjifhdkaaGreatP38
import Derived.Test.YtfjkmgjjifhdkaaGreatP39
import Derived.Test.YtfjkmgjjifhdkaaGreatP40
import Derived.Test.YtfjkmgjjifhdkaaGreatP41
import Derived.Test.YtfjkmgjjifhdkaaGreatP42
import Derived.Test.YtfjkmgjjifhdkaaGreatP43
import Derived.Test.YtfjkmgjjifhdkaaGreatP44
import Derived.Test.YtfjkmgjjifhdkaaGreatP45
import Derived.Test.YtfjkmgjjifhdkaaGreatP46
import Derived.Test.YtfjkmgjjifhdkaaGreatP47
import Derived.Test.YtfjkmgjjifhdkaaGreatQ01
import Derived.Test.YtfjkmgjjifhdkaaGreatRows
import Derived.ProofKit
import Derived.OpenShut
import Derived.ChangeSame
import Derived.Carry
import Derived.Deep.Slices
import Derived.Deep.Fields
import Derived.Lib.SmallJoins
/-
  The walks of layer 11: the models that the statements are about.
-/
namespace Go.Proofs.YtfjkmgjjifhdkaaGreat
open Go Go.RowKit

theorem int_info : (Tryz.prog.info? 3).map (fun i => (i.zero, i.size, i.bytes)) = some (some (.int .i64 0), 1, 8) := by kernel_rfl
def wsTo (x : Raw) (k : Nat) : List ByteArray := (x.words.take k).foldl (fun ws r => insW ws (wordOf r)) ab
theorem wsTo_succ {x : Raw} {k : Nat} {r : List Int} (h : x.words[k]? = some r) : wsTo x (k + 1) = insW (wsTo x k) (wordOf r) := by
  unfold wsTo; rw [take_succ_of h, List.foldl_append]; rfl
def csTo (x : Raw) (j : Nat) : List Int := (List.range j).map fun i => x.counts.getD i 0
theorem csTo_succ (x : Raw) (j : Nat) : csTo x (j + 1) = csTo x j ++ [x.counts.getD j 0] := by
  unfold csTo; rw [List.range_succ, List.map_append]; rfl
theorem insW_ge (l : List ByteArray) (s : ByteArray) : l.length ≤ (insW l s).length := by
  have h : ∀ (l : List ByteArray) (st : List ByteArray × Bool), st.1.length + l.length ≤ (l.foldl (insStep s) st).1.length := by
    intro l
    induction l with
    | nil => intro st; simp
    | cons x l ih =>
      intro st
      have h1 := ih (insStep s st x)
      have h2 : st.1.length + 1 ≤ (insStep s st x).1.length := by unfold insStep; dsimp only; split <;> simp
      simp only [List.foldl_cons, List.length_cons]
      omega
  have h1 := h (l.take l.length) ([], false)
  have h2 : (insTo s l l.length).1 = ((l.take l.length).foldl (insStep s) ([], false)).1 := rfl
  rw [List.take_length] at h1 h2
  simp only [List.length_nil] at h1
  unfold insW
  split
  · rw [h2]; omega
  · rw [List.length_append, h2]; omega
/-- The pair of a use. -/
def useP (n : Nat) (u : Int × Int × Int) : Pr := ⟨u.1 % n, u.2.1 % n, 1 + u.2.2 % 16⟩
def psTo (x : Raw) (n k : Nat) : List Pr := (x.uses.take k).foldl (fun ps u => addP ps (useP n u)) []
theorem psTo_succ {x : Raw} {n k : Nat} {u : Int × Int × Int} (h : x.uses[k]? = some u) : psTo x n (k + 1) = addP (psTo x n k) (useP n u) := by
  unfold psTo; rw [take_succ_of h, List.foldl_append]; rfl
theorem addP_len (l : List Pr) (p : Pr) : (addP l p).length ≤ 2 * l.length + 1 := by
  have := addTo_len p l l.length
  unfold addP; split <;> simp <;> omega
theorem addP_all {l : List Pr} {p : Pr} {Good : Pr → Prop} (hl : ∀ q ∈ l, Good q) (hp : Good p) (hs : ∀ q, q ∈ l → q.a = p.a → q.b = p.b → Good ⟨q.a, q.b, q.n + p.n⟩) : ∀ q ∈ addP l p, Good q := by
  have h : ∀ (m : List Pr) (st : List Pr × Bool), (∀ q ∈ m, q ∈ l) → (∀ q ∈ st.1, Good q) → ∀ q ∈ (m.foldl (addStep p) st).1, Good q := by
    intro m
    induction m with
    | nil => intro st _ h2; exact h2
    | cons y m ih =>
      intro st h1 h2
      rw [List.foldl_cons]
      refine ih _ (fun q hq => h1 q (List.mem_cons_of_mem _ hq)) ?_
      have hy := h1 y (List.mem_cons_self)
      unfold addStep
      split
      · intro q hq
        simp only [List.mem_append, List.mem_singleton] at hq
        rcases hq with (hq | hq) | hq
        · exact h2 q hq
        · rw [hq]; exact hp
        · rw [hq]; exact hl y hy
      · split
        · rename_i e
          intro q hq
          simp only [List.mem_append, List.mem_singleton] at hq
          rcases hq with hq | hq
          · exact h2 q hq
          · rw [hq]; exact hs y hy e.1 e.2
        · intro q hq
          simp only [List.mem_append, List.mem_singleton] at hq
          rcases hq with hq | hq
          · exact h2 q hq
          · rw [hq]; exact hl y hy
  have h1 := h (l.take l.length) ([], false) (fun q hq => List.mem_of_mem_take hq) (by simp)
  unfold addP addTo
  split
  · exact h1
  · intro q hq
    simp only [List.mem_append, List.mem_singleton] at hq
    rcases hq with hq | hq
    · exact h1 q hq
    · rw [hq]; exact hp
/-- What Made returns. -/
def madeM (x : Raw) : Mo := ⟨wsTo x 6, csTo x (wsTo x 6).length, psTo x (wsTo x 6).length 8, x.back⟩
theorem insW_len (l : List ByteArray) (s : ByteArray) : (insW l s).length ≤ 2 * l.length + 1 := by
  have := insTo_len s l l.length
  unfold insW; split <;> simp <;> omega

theorem insW_mem {l : List ByteArray} {s y : ByteArray} (h : y ∈ insW l s) : y ∈ l ∨ y = s := by
  have hf : ∀ (m : List ByteArray) (st : List ByteArray × Bool), (∀ q ∈ m, q ∈ l) → (∀ q ∈ st.1, q ∈ l ∨ q = s) → ∀ q ∈ (m.foldl (insStep s) st).1, q ∈ l ∨ q = s := by
    intro m
    induction m with
    | nil => intro st _ h2; exact h2
    | cons z m ih =>
      intro st h1 h2
      rw [List.foldl_cons]
      refine ih _ (fun q hq => h1 q (List.mem_cons_of_mem _ hq)) ?_
      have hz := h1 z (List.mem_cons_self)
      unfold insStep
      dsimp only
      split
      · intro q hq
        simp only [List.mem_append, List.mem_singleton] at hq
        rcases hq with (hq | hq) | hq
        · exact h2 q hq
        · exact .inr hq
        · rw [hq]; exact .inl hz
      · intro q hq
        simp only [List.mem_append, List.mem_singleton] at hq
        rcases hq with hq | hq
        · exact h2 q hq
        · rw [hq]; exact .inl hz
  have h1 := hf (l.take l.length) ([], false) (fun q hq => List.mem_of_mem_take hq) (by simp)
  unfold insW insTo at h
  split at h
  · exact h1 y h
  · simp only [List.mem_append, List.mem_singleton] at h
    rcases h with h | h
    · exact h1 y h
    · exact .inr h
theorem wsTo_words (x : Raw) : ∀ k, ∀ s ∈ wsTo x k, wordS s = true := by
  intro k
  induction k with
  | zero =>
    have h : ∀ s ∈ ab, wordS s = true := by decide +kernel
    exact h
  | succ k ih =>
    by_cases hk : k < x.words.length
    · rw [wsTo_succ (List.getElem?_eq_getElem hk)]
      intro s hs
      rcases insW_mem hs with hs | hs
      · exact ih s hs
      · rw [hs]; exact wordOf_ok _
    · have : wsTo x (k + 1) = wsTo x k := by unfold wsTo; rw [List.take_of_length_le (by omega), List.take_of_length_le (by omega)]
      rw [this]; exact ih
theorem wordS_size {s : ByteArray} (h : wordS s = true) : s.size ≤ 20 := by
  unfold wordS at h; simp at h; exact h.1.2
/-- A model comes back, in memory of the call's own. -/
def GivesMo (m : Mo) (w : World) (e : Ending) (w' : World) : Prop :=
  ∃ (B1 B2 B3 : Option Addr) (d1 d2 d3 : Nat), e = .returned (.agg #[.slice B1 m.ws.length d1, .slice B2 m.cs.length d2, .slice B3 m.ps.length d3, .int .i64 m.back]) ∧ MoR w' m B1 B2 B3 ∧
    ((m.ws.length ≤ d1 ∧ d1 ≤ maxLen) ∧ (m.cs.length ≤ d2 ∧ d2 ≤ maxLen) ∧ (m.ps.length ≤ d3 ∧ d3 ≤ maxLen)) ∧ Below w.heap.size w w'
theorem made_end {W W' : World} (x : Raw) (ws : List ByteArray) (cs : List Int) (ps : List Pr) (A1 A2 A3 : Option Addr) (d1 d2 d3 : Nat) (w : World) (e : Ending)
    (hws : ws = wsTo x 6) (hcs : cs = csTo x ws.length) (hps : ps = psTo x ws.length 8) (h1 : ws.length ≤ d1) (h1' : d1 ≤ maxLen) (h2 : cs.length ≤ d2) (h2' : d2 ≤ maxLen) (h3 : ps.length ≤ d3) (h3' : d3 ≤ maxLen)
    (o1 : W.ownsRow (w.heap.size + 2) 9 1 (.slice A1 ws.length d1) ws.length (ws.map Value.string)) (o2 : W.ownsRow (w.heap.size + 2) 3 1 (.slice A2 cs.length d2) cs.length (cs.map (Value.int .i64)))
    (o3 : W.ownsRow (w.heap.size + 2) 111 3 (.slice A3 ps.length d3) ps.length (ps.flatMap encP)) (hn : ∀ p ∈ ps, -4294967296 ≤ p.n ∧ p.n ≤ 4294967296) (l1 : ws.length ≤ 65536) (l2 : cs.length ≤ 65536) (l3 : ps.length ≤ 65536)
    (hb : Below w.heap.size w W) (hk : ∀ g, w.heap.size + 2 ≤ g → W'.heap[g]? = W.heap[g]?) (_hz : W'.heap.size = W.heap.size) (hb' : Below w.heap.size W W')
    (he : e = .returned (.agg #[.slice A1 ws.length d1, .slice A2 cs.length d2, .slice A3 ps.length d3, .int .i64 x.back])) : GivesMo (madeM x) w e W' := by
  have k1 := own_keep o1 fun g hg hlt => hk g (own_block_le o1 g hg)
  have k2 := own_keep o2 fun g hg hlt => hk g (own_block_le o2 g hg)
  have k3 := own_keep o3 fun g hg hlt => hk g (own_block_le o3 g hg)
  obtain ⟨B1, e1, hv1, _, _, s1⟩ := own_strs k1 rfl
  obtain ⟨B2, e2, hv2, _, _, s2⟩ := own_ints k2 rfl
  obtain ⟨B3, e3, hv3, _, _, s3⟩ := own_slr (R := RPr) k3 (fun _ => rfl) (fun _ => rfl) rfl
  injection hv1 with hv1 _ _
  injection hv2 with hv2 _ _
  injection hv3 with hv3 _ _
  subst hv1 hv2 hv3
  have em : madeM x = ⟨ws, cs, ps, x.back⟩ := by unfold madeM; rw [← hws, ← hcs, ← hps]
  rw [em]
  refine ⟨A1, A2, A3, d1, d2, d3, he, ⟨s1, s2, s3, l1, l2, l3, fun s hs => ?_, fun y hy => ?_⟩, ⟨⟨h1, h1'⟩, ⟨h2, h2'⟩, ⟨h3, h3'⟩⟩, hb.trans hb'⟩
  · have := wordS_size (wsTo_words x 6 s (by rw [← hws]; exact hs))
    unfold maxLen; omega
  · obtain ⟨p, hp, rfl⟩ := List.mem_map.1 hy
    exact hn p hp

set_option maxRecDepth 100000 in
set_option maxHeartbeats 2000000 in
theorem co_made_any (x : Raw) (A1 A2 A3 : Option Addr) (c1 c2 c3 : Nat) (w : World) (h : RawR w x A1 A2 A3) :
    Calls Tryz.prog 12 #[.agg #[.slice A1 x.words.length c1, .slice A2 x.counts.length c2, .slice A3 x.uses.length c3, .int .u8 x.back]] w (GivesMo (madeM x) w) := by
  obtain ⟨i2, hi2, hz20, hz21, hz22⟩ := info_parts int_info
  have H := Lib.hid h
  have hl1 := h.l1
  have hl2 := h.l2
  have hl3 := h.l3
  have hbk := h.bk
  unfold maxLen at hl1 hl2 hl3
  clear h
  have HBW : Hid (∀ W, Below (w.heap.size + 2) ((w.alloc (.cells #[.slice A1 x.words.length c1, .slice A2 x.counts.length c2, .slice A3 x.uses.length c3, .int .u8 x.back] 51)).alloc (.cells #[.slice none 0 0, .slice none 0 0, .slice none 0 0, .int .i64 0] 56)) W → Below w.heap.size w W) := fun W hW => (((Below.refl _ _).alloc (Nat.le_refl _) _).alloc (by simp) _).trans (hW.mono (by omega))
  go_enter Tryz.func12, Tryz.ntmps12
  go_wp2_with fail
  go_loopw [4] (fun i wr => ∃ k : Nat, ∃ ws : List ByteArray, ∃ v : Value, k ≤ x.words.length ∧ k ≤ 6 ∧ Hid (ws = wsTo x k) ∧ ws.length + 1 ≤ 3 * 2 ^ k ∧ 2 ≤ ws.length ∧ i = .int .i64 k ∧ wr.ownsRow (w.heap.size + 2) 9 1 v ws.length (ws.map Value.string) ∧
      Blk wr (w.heap.size + 3) 56 #[v, .slice none 0 0, .slice none 0 0, .int .i64 x.back] ∧ Below (w.heap.size + 2) ((w.alloc (.cells #[.slice A1 x.words.length c1, .slice A2 x.counts.length c2, .slice A3 x.uses.length c3, .int .u8 x.back] 51)).alloc (.cells #[.slice none 0 0, .slice none 0 0, .slice none 0 0, .int .i64 0] 56)) wr) (fun i _ => 6 - (intOf i).toNat)
  case atStart => exact ⟨0, ab, _, by omega, by omega, rfl, by decide, by decide, rfl, (own_lit ((w.alloc (.cells #[.slice A1 x.words.length c1, .slice A2 x.counts.length c2, .slice A3 x.uses.length c3, .int .u8 x.back] 51)).alloc (.cells #[.slice none 0 0, .slice none 0 0, .slice none 0 0, .int .i64 0] 56)) #[.string (ByteArray.mk #[97]), .string (ByteArray.mk #[98])] 9 1 2 (w.heap.size + 2) (w.heap.size + 1 + 1) (by simp) (by simp) (by simp) (by decide)).alloc _, Blk.new_ (by simp), ((Below.refl _ _).alloc (by simp) _).alloc (by simp) _⟩
  case round =>
    obtain ⟨k, ws, v, hk, hk6, HWs, hwl, hw2, rfl, hown, hB, hb⟩ := hrel
    have hilen2 := insW_ge ws
    obtain ⟨A, cap, rfl, hcap, hcm, hws⟩ := own_strs hown rfl
    have hp6 : 2 ^ k ≤ 64 := Nat.pow_le_pow_right (n := 2) (by decide) hk6
    have hbw := HBW.out _ hb
    have hx0 : wr.cell? ⟨w.heap.size, 0, none⟩ = some (.slice A1 x.words.length c1) := (hb.cell (p := ⟨w.heap.size, 0, none⟩) (by show w.heap.size < _; omega)).trans ((World.cell?_alloc_lt _ _ ⟨w.heap.size, 0, none⟩ (by simp)).trans (new_cell _ _ _ 0))
    have hm0 : wr.cell? ⟨(w.heap.size + 3), 0, none⟩ = some (.slice A ws.length cap) := hB.cell 0
    have hf0 := hB.frozen 0
    have hsB := hB.lt
    have hs0 : w.heap.size < wr.heap.size := by omega
    by_cases hgo : k < x.words.length ∧ k < 6
    · obtain ⟨hlt, hlt6⟩ := hgo
      · obtain ⟨bk, off, r, Ar, cr, rfl, hbb, hrr, hcr0, hr1', hr2, hr3⟩ := H.out.h1.row hlt
        have hcr := (hbw.cell (p := ⟨bk, _, none⟩) hbb).trans hcr0
        have hr1 := hr1'.below keeps_u8 hbw
        have HR := Lib.hid (wsTo_succ hrr)
        have hbs : bk < wr.heap.size := by omega
        have hki : (k : Int) < (x.words.length : Int) := by omega
        have hk0 : (0 : Int) ≤ (k : Int) := by omega
        have HB := Lib.hid hB
        have HBb := Lib.hid hb
        have hilen := insW_len ws (wordOf r)
        clear hcr0 hr1' hrr hbw hB hb hown
        go_wp2_with fail
        refine ordT_below [10] [(0, false), (1, false), (2, false), (3, false), (4, false), (5, false), (6, false), (7, true), (8, true), (9, false), (10, true)] (by kernel_rfl) (by kernel_rfl) (by kernel_rfl) (fun _ _ _ _ _ h => h) ?_
        intro W0 hS0
        repeat (first
          | (refine ordT_skip rfl rfl (by assumption) ?_; simp only [Act.put, List.setIfInBounds_toArray, List.set_cons_zero, List.set_cons_succ])
          | (refine ordT_cskip rfl rfl (by assumption) ?_; simp only [Act.put, List.setIfInBounds_toArray, List.set_cons_zero, List.set_cons_succ])
          | (refine ordT_take (v := ?_) rfl rfl (by assumption) ?_ ?_
             rotate_left 1
             focus (intro W hW; obtain ⟨hcW, hfW⟩ := bcell hW; (go_simp <;> with_reducible rfl))
             simp only [Act.put, List.setIfInBounds_toArray, List.set_cons_zero, List.set_cons_succ])
          | (refine ordT_call rfl rfl (fun K hK => ?_)
             obtain ⟨hcS, hfS⟩ := bcell hS0
             go_simp
             first
               | (go_at_call 42; refine (rword_any Ar r cr _ (hr1.below keeps_u8 hS0) hr2 hr3).mono ?_; rintro e w' ⟨rfl, hb'⟩; refine hK.out _ _ (fun _ => hS0.trans (hb'.mono hS0.size)) ?_; replace hS0 := hS0.trans (hb'.mono hS0.size))
               | (go_at_call 41; refine (insert_any A ws cap (wordOf r) _ (hws.below keeps_str hS0) (by omega)).mono ?_; rintro e w' ⟨v', rfl, hown', hb'⟩; obtain ⟨A', cap', rfl, hcap', hcm', _⟩ := own_strs hown' rfl; refine hK.out _ _ (fun _ => hS0.trans (hb'.mono hS0.size)) ?_; have hS1 := hS0.size; replace hS0 := hS0.trans (hb'.mono hS0.size))
               | (refine hK.out _ _ (fun h => by cases h) ?_)))
        refine ordT_nil ?_
        go_wp2_with fail
        go_roundw
        case rel => exact ⟨k + 1, insW ws (wordOf r), _, by omega, by omega, (by rw [HR.out, ← HWs.out] : insW ws (wordOf r) = wsTo x (k + 1)), by rw [Nat.pow_succ]; omega, Nat.le_trans hw2 (hilen2 _), by go_num, own_set (own_base hown' (by omega)) (fun e => by have := own_block_le hown' _ e; simp at this; omega) _, (HB.out.below hS0 hsB).set_ 0 _, HBb.out.trans ((hS0.mono (by omega)).trans ((Below.refl _ _).setCell (by show _ ≤ w.heap.size + 3; omega) _))⟩
        case measure => simp [intOf]; omega
    · have hend : (¬ k < x.words.length) ∨ (k < x.words.length ∧ ¬ k < 6) := by omega
      have HW6 := Lib.hid (show ws = wsTo x 6 by
        rw [HWs.out]
        unfold wsTo
        rcases hend with h | ⟨_, h⟩
        · rw [List.take_of_length_le (i := k) (by omega), List.take_of_length_le (i := 6) (by omega)]
        · rw [show k = 6 by omega])
      have hwl190 : ws.length ≤ 191 := by omega
      have HOwn := Lib.hid hown
      have HB := Lib.hid hB
      have HBb := Lib.hid hb
      clear hown hB hb hbw hws hwl hp6 HWs
      rcases hend with hend | ⟨hend, hend'⟩
      all_goals
        go_wp2_with fail
        clear hm0 hf0 hx0 hsB hs0
        go_loopw [6, 7] (fun i _ wr => ∃ j : Nat, ∃ cs : List Int, ∃ v2 : Value, j ≤ ws.length ∧ Hid (cs = csTo x j) ∧ cs.length = j ∧ i = .int .i64 j ∧ wr.ownsRow (w.heap.size + 2) 9 1 (.slice A ws.length cap) ws.length (ws.map Value.string) ∧
            wr.ownsRow (w.heap.size + 2) 3 1 v2 cs.length (cs.map (Value.int .i64)) ∧ Blk wr (w.heap.size + 3) 56 #[.slice A ws.length cap, v2, .slice none 0 0, .int .i64 x.back] ∧ Below (w.heap.size + 2) ((w.alloc (.cells #[.slice A1 x.words.length c1, .slice A2 x.counts.length c2, .slice A3 x.uses.length c3, .int .u8 x.back] 51)).alloc (.cells #[.slice none 0 0, .slice none 0 0, .slice none 0 0, .int .i64 0] 56)) wr) (fun i _ _ => ws.length - (intOf i).toNat)
        case atStart => exact ⟨0, [], _, by omega, rfl, rfl, rfl, HOwn.out, own_nil _ _ _ _, HB.out, HBb.out⟩
        case round =>
          obtain ⟨j, cs, v2, hj, HCs, hcl, rfl, hown, hown2, hB, hb⟩ := hrel
          obtain ⟨A2', cap2, rfl, hcap2, hcm2, hcs⟩ := own_ints hown2 rfl
          have hcl191 : cs.length ≤ 191 := by omega
          have HCL := Lib.hid hcl
          clear hcl
          have hx1 : wr.cell? ⟨w.heap.size, 1, none⟩ = some (.slice A2 x.counts.length c2) := (hb.cell (p := ⟨w.heap.size, 1, none⟩) (by show w.heap.size < _; omega)).trans ((World.cell?_alloc_lt _ _ ⟨w.heap.size, 1, none⟩ (by simp)).trans (new_cell _ _ _ 1))
          have hm0 : wr.cell? ⟨(w.heap.size + 3), 0, none⟩ = some (.slice A ws.length cap) := hB.cell 0
          have hm1 : wr.cell? ⟨(w.heap.size + 3), 1, none⟩ = some (.slice A2' cs.length cap2) := hB.cell 1
          have hf1 := hB.frozen 1
          have hsB := hB.lt
          have hs0 : w.heap.size < wr.heap.size := by omega
          have hne2 := own_blk_ne hown2 hB (by decide)
          have hne1 := own_blk_ne hown hB (by decide)
          have hbase : w.heap.size + 2 ≤ wr.heap.size := by omega
          have HB1 := Lib.hid hB
          have HBb1 := Lib.hid hb
          by_cases hlt2 : j < ws.length
          · by_cases hjc : j < x.counts.length
            · obtain ⟨bc, offc, y, hAy, hbb, hyy, hcy0⟩ := H.out.h2.u8 hjc
              have hcy := ((HBW.out _ hb).cell (p := ⟨bc, _, none⟩) hbb).trans hcy0
              have hyb := H.out.b2 y (List.mem_of_getElem? hyy)
              have HC := Lib.hid (show csTo x (j + 1) = cs ++ [y] by rw [csTo_succ, ← HCs.out]; simp [hyy])
              have hbs : bc < wr.heap.size := by omega
              subst hAy
              clear hcy0 hyy hb hB
              go_wp2_with (first | (at_builtin; refine wpList_app1 rfl _ _ 40 rfl (w.heap.size + 2) 3 i2 _ 1 8 Tryz.underlying40 hi2 hz20 hz21 hz22 rfl (by decide) (.slice A2' cs.length cap2) _ _ rfl wr [.int .i64 y] rfl hown2 _ rfl (by simp) rfl (by simp [Value.oneCell']) (by omega) (by decide) hbase ?_; intro v3 w3 hown3' hb3 ha3; have hown3 : w3.ownsRow (w.heap.size + 2) 3 1 v3 (cs ++ [y]).length ((cs ++ [y]).map (Value.int .i64)) := (by simpa using hown3'); clear hown3'; obtain ⟨A3', cap3, rfl, hcap3, hcm3, _⟩ := own_ints hown3 rfl; have hm1' := (HB1.out.apps ha3 hne2).cell 1; have hf1' := (HB1.out.apps ha3 hne2).frozen 1))
              go_roundw
              case rel => exact ⟨j + 1, cs ++ [y], _, by omega, HC.out.symm, by have := HCL.out; simp; omega, by go_num, own_set (own_apps hown hown2 (by decide) ha3) hne1 _, own_set hown3 (ha3.ne hsB hne2) _, (by have := (HB1.out.apps ha3 hne2).set_ 1 (.slice A3' (cs.length + 1) cap3); simpa using this), HBb1.out.trans (hb3.trans ((Below.refl _ _).setCell (by show _ ≤ w.heap.size + 3; omega) _))⟩
              case measure => simp [intOf]; omega
            · have HC := Lib.hid (show csTo x (j + 1) = cs ++ [0] by rw [csTo_succ, ← HCs.out]; simp [show x.counts[j]? = none from List.getElem?_eq_none (by omega)])
              clear hb hB
              go_wp2_with (first | (at_builtin; refine wpList_app1 rfl _ _ 40 rfl (w.heap.size + 2) 3 i2 _ 1 8 Tryz.underlying40 hi2 hz20 hz21 hz22 rfl (by decide) (.slice A2' cs.length cap2) _ _ rfl wr [.int .i64 0] rfl hown2 _ rfl (by simp) rfl (by simp [Value.oneCell']) (by omega) (by decide) hbase ?_; intro v3 w3 hown3' hb3 ha3; have hown3 : w3.ownsRow (w.heap.size + 2) 3 1 v3 (cs ++ [0]).length ((cs ++ [0]).map (Value.int .i64)) := (by simpa using hown3'); clear hown3'; obtain ⟨A3', cap3, rfl, hcap3, hcm3, _⟩ := own_ints hown3 rfl; have hm1' := (HB1.out.apps ha3 hne2).cell 1; have hf1' := (HB1.out.apps ha3 hne2).frozen 1))
              go_roundw
              case rel => exact ⟨j + 1, cs ++ [0], _, by omega, HC.out.symm, by have := HCL.out; simp; omega, by go_num, own_set (own_apps hown hown2 (by decide) ha3) hne1 _, own_set hown3 (ha3.ne hsB hne2) _, (by have := (HB1.out.apps ha3 hne2).set_ 1 (.slice A3' (cs.length + 1) cap3); simpa using this), HBb1.out.trans (hb3.trans ((Below.refl _ _).setCell (by show _ ≤ w.heap.size + 3; omega) _))⟩
              case measure => simp [intOf]; omega
          · obtain rfl : j = ws.length := by omega
            have HO1 := Lib.hid hown
            have HO2 := Lib.hid hown2
            clear hown hown2 hb hB hne1 hne2 hx1 hf1 hcs hm1 hbase
            go_wp2_with fail
            clear hm0 hsB hs0
            go_loopw [8, 9] (fun i _ wr => ∃ q : Nat, ∃ ps : List Pr, ∃ v3 : Value, q ≤ x.uses.length ∧ q ≤ 8 ∧ Hid (ps = psTo x ws.length q) ∧ ps.length + 1 ≤ 2 ^ q ∧ (∀ p ∈ ps, 0 ≤ p.n ∧ p.n ≤ 16 * q) ∧ i = .int .i64 q ∧ wr.ownsRow (w.heap.size + 2) 9 1 (.slice A ws.length cap) ws.length (ws.map Value.string) ∧
                wr.ownsRow (w.heap.size + 2) 3 1 (.slice A2' cs.length cap2) cs.length (cs.map (Value.int .i64)) ∧ wr.ownsRow (w.heap.size + 2) 111 3 v3 ps.length (ps.flatMap encP) ∧ Blk wr (w.heap.size + 3) 56 #[.slice A ws.length cap, .slice A2' cs.length cap2, v3, .int .i64 x.back] ∧ Below (w.heap.size + 2) ((w.alloc (.cells #[.slice A1 x.words.length c1, .slice A2 x.counts.length c2, .slice A3 x.uses.length c3, .int .u8 x.back] 51)).alloc (.cells #[.slice none 0 0, .slice none 0 0, .slice none 0 0, .int .i64 0] 56)) wr) (fun i _ _ => 8 - (intOf i).toNat)
            case atStart => exact ⟨0, [], _, by omega, by omega, rfl, by decide, by simp, rfl, HO1.out, HO2.out, own_nil _ _ _ _, HB1.out, HBb1.out⟩
            case round =>
              obtain ⟨q, ps, v3, hq, hq8, HPs, hpl, hpn, rfl, hown, hown2, hown3, hB, hb⟩ := hrel
              obtain ⟨A3', cap3, rfl, hcap3, hcm3, hps⟩ := own_slr (R := RPr) hown3 (fun _ => rfl) (fun _ => rfl) rfl
              have hq256 : 2 ^ q ≤ 256 := Nat.pow_le_pow_right (n := 2) (by decide) hq8
              have hx2 : wr.cell? ⟨w.heap.size, 2, none⟩ = some (.slice A3 x.uses.length c3) := (hb.cell (p := ⟨w.heap.size, 2, none⟩) (by show w.heap.size < _; omega)).trans ((World.cell?_alloc_lt _ _ ⟨w.heap.size, 2, none⟩ (by simp)).trans (new_cell _ _ _ 2))
              have hsB := hB.lt
              have hs0 : w.heap.size < wr.heap.size := by omega
              by_cases hgo3 : q < x.uses.length ∧ q < 8
              · obtain ⟨hlt3, hlt8⟩ := hgo3
                obtain ⟨bu, offu, u, hAu, hbb, huu, hu0', hu1', hu2'⟩ := H.out.h3.u3 hlt3
                have hub := H.out.b3 u (List.mem_of_getElem? huu)
                have HU := Lib.hid (psTo_succ (n := ws.length) huu)
                obtain ⟨ua, ub, uc⟩ := u
                dsimp only at hub hu0' hu1' hu2'
                obtain ⟨hua, hubb, huc⟩ := hub
                have hbel := HBW.out _ hb
                have hu0 := (hbel.cell (p := ⟨bu, _, none⟩) hbb).trans hu0'
                have hu1 := (hbel.cell (p := ⟨bu, _, none⟩) hbb).trans hu1'
                have hu2 := (hbel.cell (p := ⟨bu, _, none⟩) hbb).trans hu2'
                have hbs : bu < wr.heap.size := by omega
                obtain ⟨W1, hW1⟩ : ∃ W1, W1 = wr.alloc (.cells #[.int .u8 ua, .int .u8 ub, .int .u8 uc] 52) := ⟨_, rfl⟩
                have d0 : W1.cell? ⟨wr.heap.size, 0, none⟩ = some (.int .u8 ua) := by rw [hW1]; exact new_cell _ _ _ _
                have d1 : W1.cell? ⟨wr.heap.size, 1, none⟩ = some (.int .u8 ub) := by rw [hW1]; exact new_cell _ _ _ _
                have d2 : W1.cell? ⟨wr.heap.size, 2, none⟩ = some (.int .u8 uc) := by rw [hW1]; exact new_cell _ _ _ _
                have hB1 : Blk W1 (w.heap.size + 3) 56 #[.slice A ws.length cap, .slice A2' cs.length cap2, .slice A3' ps.length cap3, .int .i64 x.back] := by rw [hW1]; exact hB.alloc _
                have hb1 : Below (w.heap.size + 2) ((w.alloc (.cells #[.slice A1 x.words.length c1, .slice A2 x.counts.length c2, .slice A3 x.uses.length c3, .int .u8 x.back] 51)).alloc (.cells #[.slice none 0 0, .slice none 0 0, .slice none 0 0, .int .i64 0] 56)) W1 := by rw [hW1]; exact hb.alloc (by omega) _
                have ho1 : W1.ownsRow (w.heap.size + 2) 9 1 (.slice A ws.length cap) ws.length (ws.map Value.string) := by rw [hW1]; exact hown.alloc _
                have ho2 : W1.ownsRow (w.heap.size + 2) 3 1 (.slice A2' cs.length cap2) cs.length (cs.map (Value.int .i64)) := by rw [hW1]; exact hown2.alloc _
                have hs3 : SlR 3 RPr W1 A3' ps := by rw [hW1]; exact hps.below keeps_pr ((Below.refl _ _).alloc (Nat.le_refl _) _)
                have m0 : W1.cell? ⟨(w.heap.size + 3), 0, none⟩ = some (.slice A ws.length cap) := hB1.cell 0
                have m1 : W1.cell? ⟨(w.heap.size + 3), 1, none⟩ = some (.slice A2' cs.length cap2) := hB1.cell 1
                have m2 : W1.cell? ⟨(w.heap.size + 3), 2, none⟩ = some (.slice A3' ps.length cap3) := hB1.cell 2
                have m3 : W1.cell? ⟨(w.heap.size + 3), 3, none⟩ = some (.int .i64 x.back) := hB1.cell 3
                have mf2 := hB1.frozen 2
                have f0 : wr.heap.size < W1.heap.size := by rw [hW1]; exact new_lt _ _
                have f1 : (w.heap.size + 3) < W1.heap.size := by omega
                have HW1 := Lib.hid hW1
                have HB1' := Lib.hid hB1
                have HBb1' := Lib.hid hb1
                have HPN := Lib.hid hpn
                have ht1 : ua.tmod (ws.length : Int) = ua % (ws.length : Int) := Int.tmod_eq_emod_of_nonneg hua.1
                have ht2 : ub.tmod (ws.length : Int) = ub % (ws.length : Int) := Int.tmod_eq_emod_of_nonneg hubb.1
                have ht3 : uc.tmod 16 = uc % 16 := Int.tmod_eq_emod_of_nonneg huc.1
                have hr1 := Int.emod_nonneg ua (show (ws.length : Int) ≠ 0 by omega)
                have hr2 := Int.emod_nonneg ub (show (ws.length : Int) ≠ 0 by omega)
                have hr3 := Int.emod_lt_of_pos ua (show 0 < (ws.length : Int) by omega)
                have hr4 := Int.emod_lt_of_pos ub (show 0 < (ws.length : Int) by omega)
                have hwa : IntKind.i64.wrap ua = ua := IntWalk.i64_in _ (by omega)
                have hwb : IntKind.i64.wrap ub = ub := IntWalk.i64_in _ (by omega)
                have hwc : IntKind.i64.wrap (uc % 16) = uc % 16 := IntWalk.i64_in _ (by omega)
                have hwd : IntKind.i64.wrap (1 + uc % 16) = 1 + uc % 16 := IntWalk.i64_in _ (by omega)
                have hwe : IntKind.i64.wrap (ua % ws.length) = ua % ws.length := IntWalk.i64_in _ (by omega)
                have hwf : IntKind.i64.wrap (ub % ws.length) = ub % ws.length := IntWalk.i64_in _ (by omega)
                have hwsne : ¬ ws = [] := fun e => by rw [e] at hw2; simp at hw2
                have HPall := Lib.hid (show ∀ p ∈ addP ps (useP ws.length (ua, ub, uc)), 0 ≤ p.n ∧ p.n ≤ 16 * ((q + 1 : Nat) : Int) from addP_all (fun p hp => by have := hpn p hp; omega) (by unfold useP; dsimp only; omega) (fun p hp _ _ => by have := hpn p hp; unfold useP; dsimp only; omega))
                have hWI := Lib.hid (show Within 4294967296 (ps.map Pr.n) from fun y hy => by
                  obtain ⟨p, hp, rfl⟩ := List.mem_map.1 hy
                  have := hpn p hp
                  omega)
                subst hAu
                clear hW1 hB1 hb1 hpn hu0' hu1' hu2' huu hbel hB hb hown hown2 hown3 hps
                go_wp2_with fail
                rw [← HW1.out]
                refine ordT_below [19] [(0, false), (1, false), (2, false), (3, false), (4, false), (5, false), (6, false), (7, false), (8, false), (9, false), (10, false), (11, false), (12, false), (13, false), (14, false), (15, false), (16, false), (17, true), (18, false), (19, true)] (by kernel_rfl) (by kernel_rfl) (by kernel_rfl) (fun _ _ _ _ _ h => h) ?_
                intro W0 hS0
                repeat (first
                  | (refine ordT_skip rfl rfl (by assumption) ?_; simp only [Act.put, List.setIfInBounds_toArray, List.set_cons_zero, List.set_cons_succ])
                  | (refine ordT_cskip rfl rfl (by assumption) ?_; simp only [Act.put, List.setIfInBounds_toArray, List.set_cons_zero, List.set_cons_succ])
                  | (refine ordT_take (v := ?_) rfl rfl (by assumption) ?_ ?_
                     rotate_left 1
                     focus (intro W hW; obtain ⟨hcW, hfW⟩ := bcell hW; (go_simp <;> with_reducible rfl))
                     simp only [Act.put, List.setIfInBounds_toArray, List.set_cons_zero, List.set_cons_succ])
                  | (refine ordT_call rfl rfl (fun K hK => ?_)
                     obtain ⟨hcS, hfS⟩ := bcell hS0
                     go_simp
                     first
                       | (go_at_call 43; refine (add_any _ _ _ A3' ps cap3 ⟨ua % ws.length, ub % ws.length, 1 + uc % 16⟩ _ (hs3.below keeps_pr hS0) (by omega) hWI.out (by dsimp only; omega)).mono ?_; rintro e w' ⟨v', rfl, hown', hb'⟩; obtain ⟨A4', cap4', rfl, hcap4', hcm4', _⟩ := own_slr (R := RPr) hown' (fun _ => rfl) (fun _ => rfl) rfl; refine hK.out _ _ (fun _ => hS0.trans (hb'.mono hS0.size)) ?_; have hS1 := hS0.size; replace hS0 := hS0.trans (hb'.mono hS0.size))
                       | (refine hK.out _ _ (fun h => by cases h) ?_)))
                refine ordT_nil ?_
                go_wp2_with fail
                go_roundw
                case rel => exact ⟨q + 1, addP ps (useP ws.length (ua, ub, uc)), _, by omega, by omega, (by rw [HU.out, ← HPs.out] : addP ps (useP ws.length (ua, ub, uc)) = psTo x ws.length (q + 1)), by have := addP_len ps (useP ws.length (ua, ub, uc)); rw [Nat.pow_succ]; omega, HPall.out, by go_num, own_set (own_below ho1 hS0) (fun e => by have := own_blk_ne ho1 HB1'.out (by decide); exact this (by simpa using e)) _, own_set (own_below ho2 hS0) (fun e => by have := own_blk_ne ho2 HB1'.out (by decide); exact this (by simpa using e)) _, own_set (own_base hown' (by omega)) (fun e => by have := own_block_le hown' _ e; simp at this; omega) _, (HB1'.out.below hS0 f1).set_ 2 _, HBb1'.out.trans ((hS0.mono (by omega)).trans ((Below.refl _ _).setCell (by show _ ≤ w.heap.size + 3; omega) _))⟩
                case measure => simp [intOf]; omega
              · have hend3 : (¬ q < x.uses.length) ∨ (q < x.uses.length ∧ ¬ q < 8) := by omega
                have HP8 := Lib.hid (show ps = psTo x ws.length 8 by
                  rw [HPs.out]
                  unfold psTo
                  rcases hend3 with h | ⟨_, h⟩
                  · rw [List.take_of_length_le (i := q) (by omega), List.take_of_length_le (i := 8) (by omega)]
                  · rw [show q = 8 by omega])
                have m0 : wr.cell? ⟨(w.heap.size + 3), 0, none⟩ = some (.slice A ws.length cap) := hB.cell 0
                have m1 : wr.cell? ⟨(w.heap.size + 3), 1, none⟩ = some (.slice A2' cs.length cap2) := hB.cell 1
                have m2 : wr.cell? ⟨(w.heap.size + 3), 2, none⟩ = some (.slice A3' ps.length cap3) := hB.cell 2
                have m3 : wr.cell? ⟨(w.heap.size + 3), 3, none⟩ = some (.int .i64 x.back) := hB.cell 3
                have hZ : Blk wr (w.heap.size + 1) 56 #[.slice none 0 0, .slice none 0 0, .slice none 0 0, .int .i64 0] := Blk.below (Blk.new_ (by simp)) hb (by omega)
                have z0 : wr.cell? ⟨w.heap.size + 1, 0, none⟩ = some (.slice none 0 0) := hZ.cell 0
                have z1 : wr.cell? ⟨w.heap.size + 1, 1, none⟩ = some (.slice none 0 0) := hZ.cell 1
                have z2 : wr.cell? ⟨w.heap.size + 1, 2, none⟩ = some (.slice none 0 0) := hZ.cell 2
                have z3 : wr.cell? ⟨w.heap.size + 1, 3, none⟩ = some (.int .i64 0) := hZ.cell 3
                have zf0 := hZ.frozen 0
                have zf1 := hZ.frozen 1
                have zf2 := hZ.frozen 2
                have zf3 := hZ.frozen 3
                have hs1 : w.heap.size + 1 < wr.heap.size := by omega
                have HB1' := Lib.hid hB
                have HBb1' := Lib.hid hb
                have HPN := Lib.hid hpn
                clear hpn hB hb hZ hps
                rcases hend3 with hend3 | ⟨hend3, hend3'⟩
                all_goals
                  go_wp2_with fail
                  refine bodyPost_ret (v := .agg #[.slice A ws.length cap, .slice A2' cs.length cap2, .slice A3' ps.length cap3, .int .i64 x.back]) (by simp [results, Tryz.results12, go_sem, z0, z1, z2, z3]) rfl ?_
                  exact made_end (W := wr) x ws cs ps A A2' A3' cap cap2 cap3 w _ HW6.out (by rw [HCs.out]) (HP8.out) hcap hcm hcap2 hcm2 hcap3 hcm3 hown hown2 hown3 (fun p hp => by have := HPN.out p hp; omega) (by omega) (by omega) (by omega) (HBW.out _ HBb1'.out)
                    (fun g hg => by rw [Below.heap_setCell _ _ _ g (show g ≠ w.heap.size + 1 by omega), Below.heap_setCell _ _ _ g (show g ≠ w.heap.size + 1 by omega), Below.heap_setCell _ _ _ g (show g ≠ w.heap.size + 1 by omega), Below.heap_setCell _ _ _ g (show g ≠ w.heap.size + 1 by omega)]) (by simp [World.setCell]) ((((Below.refl _ _).setCell (by show _ ≤ w.heap.size + 1; omega) _).setCell (by show _ ≤ w.heap.size + 1; omega) _).setCell (by show _ ≤ w.heap.size + 1; omega) _ |>.setCell (by show _ ≤ w.heap.size + 1; omega) _) rfl
end Go.Proofs.YtfjkmgjjifhdkaaGreat

/-
  The plain law of layer 11: what is put into increasing lists, which models are valid, how costs change; no walk in sight.
-/
namespace Go.Proofs.YtfjkmgjjifhdkaaGreat
open Go Go.RowKit

/-! Putting a pair into an increasing list. -/
def insP (g : Pr) : List Pr → List Pr
  | [] => [g]
  | q :: l => if lessP g q then g :: q :: l else if q.a = g.a ∧ q.b = g.b then ⟨q.a, q.b, q.n + g.n⟩ :: l else q :: insP g l
theorem lessP_no (p q : Pr) : lessP p q = false ↔ ¬ (p.a < q.a ∨ (p.a = q.a ∧ p.b < q.b)) := by rw [← lessP_iff]; simp
theorem insP_lt {g q : Pr} {l : List Pr} (h : g.a < q.a ∨ (g.a = q.a ∧ g.b < q.b)) : insP g (q :: l) = g :: q :: l := by
  rw [insP, if_pos ((lessP_iff _ _).2 h)]
theorem insP_eq {g q : Pr} {l : List Pr} (h1 : q.a = g.a) (h2 : q.b = g.b) : insP g (q :: l) = ⟨q.a, q.b, q.n + g.n⟩ :: l := by
  rw [insP, if_neg (by rw [lessP_iff]; omega), if_pos ⟨h1, h2⟩]
theorem insP_gt {g q : Pr} {l : List Pr} (h : q.a < g.a ∨ (q.a = g.a ∧ q.b < g.b)) : insP g (q :: l) = q :: insP g l := by
  rw [insP, if_neg (by rw [lessP_iff]; omega), if_neg (by omega)]
theorem tri (g q : Pr) : (g.a < q.a ∨ (g.a = q.a ∧ g.b < q.b)) ∨ (q.a = g.a ∧ q.b = g.b) ∨ (q.a < g.a ∨ (q.a = g.a ∧ q.b < g.b)) := by omega
theorem insP_mem {g y : Pr} : ∀ {l : List Pr}, y ∈ insP g l → y = g ∨ y ∈ l ∨ ∃ q ∈ l, q.a = g.a ∧ q.b = g.b ∧ y = ⟨q.a, q.b, q.n + g.n⟩
  | [], h => .inl (by simpa [insP] using h)
  | q :: l, h => by
    rcases tri g q with h1 | ⟨h1, h2⟩ | h1
    · rw [insP_lt h1] at h
      rcases List.mem_cons.1 h with h | h
      · exact .inl h
      · exact .inr (.inl h)
    · rw [insP_eq h1 h2] at h
      rcases List.mem_cons.1 h with h | h
      · exact .inr (.inr ⟨q, by simp, h1, h2, h⟩)
      · exact .inr (.inl (by simp [h]))
    · rw [insP_gt h1] at h
      rcases List.mem_cons.1 h with h | h
      · exact .inr (.inl (by simp [h]))
      · rcases insP_mem h with h | h | ⟨z, hz, e⟩
        · exact .inl h
        · exact .inr (.inl (by simp [h]))
        · exact .inr (.inr ⟨z, by simp [hz], e⟩)
theorem insP_inc (g : Pr) : ∀ {l : List Pr}, incP l = true → incP (insP g l) = true
  | [], _ => rfl
  | q :: l, h => by
    obtain ⟨h1, h2⟩ := incP_cons.1 h
    rcases tri g q with h3 | ⟨h3, h4⟩ | h3
    · rw [insP_lt h3, incP_cons]
      refine ⟨fun y hy => ?_, h⟩
      rcases List.mem_cons.1 hy with rfl | hy
      · exact (lessP_iff _ _).2 h3
      · have := h1 y hy
        rw [lessP_iff] at *; omega
    · rw [insP_eq h3 h4, incP_cons]
      exact ⟨fun y hy => by have := h1 y hy; rw [lessP_iff] at *; exact this, h2⟩
    · rw [insP_gt h3, incP_cons]
      refine ⟨fun y hy => ?_, insP_inc g h2⟩
      rcases insP_mem hy with rfl | hy | ⟨z, hz, _, _, rfl⟩
      · exact (lessP_iff _ _).2 h3
      · exact h1 y hy
      · have := h1 z hz; rw [lessP_iff] at *; exact this
theorem addDone (p : Pr) : ∀ (l acc : List Pr), (∀ q ∈ l, ¬ (q.a = p.a ∧ q.b = p.b)) → l.foldl (addStep p) (acc, true) = (acc ++ l, true)
  | [], acc, _ => by simp
  | q :: l, acc, h => by
    have h1 : addStep p (acc, true) q = (acc ++ [q], true) := by
      unfold addStep; rw [if_neg (by simp), if_neg (h q (by simp))]
    rw [List.foldl_cons, h1, addDone p l _ (fun z hz => h z (by simp [hz]))]
    simp
theorem addRun (p : Pr) : ∀ (l acc : List Pr), incP l = true → (let st := l.foldl (addStep p) (acc, false); if st.2 then st.1 else st.1 ++ [p]) = acc ++ insP p l
  | [], acc, _ => by simp [insP]
  | q :: l, acc, h => by
    obtain ⟨h1, h2⟩ := incP_cons.1 h
    rcases tri p q with h3 | ⟨h3, h4⟩ | h3
    · have e : addStep p (acc, false) q = (acc ++ [p] ++ [q], true) := by unfold addStep; rw [if_pos (by simp [(lessP_iff _ _).2 h3])]
      rw [List.foldl_cons, e, addDone p l _ (fun z hz => by have := h1 z hz; rw [lessP_iff] at this; omega), insP_lt h3]
      simp
    · have e : addStep p (acc, false) q = (acc ++ [⟨q.a, q.b, q.n + p.n⟩], true) := by
        unfold addStep; rw [if_neg (by simp [lessP_no]; omega), if_pos ⟨h3, h4⟩]
      rw [List.foldl_cons, e, addDone p l _ (fun z hz => by have := h1 z hz; rw [lessP_iff] at this; omega), insP_eq h3 h4]
      simp
    · have e : addStep p (acc, false) q = (acc ++ [q], false) := by
        unfold addStep; rw [if_neg (by simp [lessP_no]; omega), if_neg (by omega)]
      rw [List.foldl_cons, e, addRun p l _ h2, insP_gt h3]
      simp
theorem addP_eq {ps : List Pr} (p : Pr) (h : incP ps = true) : addP ps p = insP p ps := by
  have := addRun p ps [] h
  unfold addP addTo
  rw [List.take_length]
  simpa using this
theorem insP_len (g : Pr) : ∀ l : List Pr, l.length ≤ (insP g l).length ∧ (insP g l).length ≤ l.length + 1
  | [] => by simp [insP]
  | q :: l => by
    have ih := insP_len g l
    rcases tri g q with h1 | ⟨h1, h2⟩ | h1
    · rw [insP_lt h1]; simp
    · rw [insP_eq h1 h2]; simp
    · rw [insP_gt h1]; simp; omega
theorem insP_sum (g : Pr) (a : Int) : ∀ l, sumAt (insP g l) a = sumAt l a + if g.a = a then g.n else 0
  | [] => by rw [insP, sumAt_cons]; simp [sumAt, total]
  | q :: l => by
    have ih := insP_sum g a l
    rcases tri g q with h1 | ⟨h1, h2⟩ | h1
    · rw [insP_lt h1, sumAt_cons, sumAt_cons]; omega
    · rw [insP_eq h1 h2, sumAt_cons, sumAt_cons]
      simp only
      split <;> split <;> omega
    · rw [insP_gt h1, sumAt_cons, sumAt_cons, ih]; omega
end Go.Proofs.YtfjkmgjjifhdkaaGreat

/-
  The plain law of layer 11, continued: the models that are made are valid, and small; so are those behind what is learnt.
-/
namespace Go.Proofs.YtfjkmgjjifhdkaaGreat
open Go Go.RowKit

/-! The order of texts. -/
theorem bl_trans : ∀ (x y z : List UInt8), Op.bytesLess x y = true → Op.bytesLess y z = true → Op.bytesLess x z = true
  | _, [], _, h, _ => by cases ‹List UInt8› <;> simp [Op.bytesLess] at h
  | [], _ :: _, [], _, h => by simp [Op.bytesLess] at h
  | [], _ :: _, _ :: _, _, _ => by simp [Op.bytesLess]
  | _ :: _, _ :: _, [], _, h => by simp [Op.bytesLess] at h
  | a :: x, b :: y, c :: z, h1, h2 => by
    simp only [Op.bytesLess, Bool.or_eq_true, Bool.and_eq_true, decide_eq_true_eq, beq_iff_eq, UInt8.lt_iff_toNat_lt] at *
    rcases h1 with h1 | ⟨rfl, h1⟩
    · rcases h2 with h2 | ⟨rfl, h2⟩
      · left; omega
      · left; exact h1
    · rcases h2 with h2 | ⟨rfl, h2⟩
      · left; exact h2
      · right; exact ⟨rfl, bl_trans x y z h1 h2⟩
theorem bl_tri : ∀ (x y : List UInt8), Op.bytesLess x y = true ∨ x = y ∨ Op.bytesLess y x = true
  | [], [] => by simp
  | [], _ :: _ => by simp [Op.bytesLess]
  | _ :: _, [] => by simp [Op.bytesLess]
  | a :: x, b :: y => by
    have ih := bl_tri x y
    simp only [Op.bytesLess, Bool.or_eq_true, Bool.and_eq_true, decide_eq_true_eq, beq_iff_eq, UInt8.lt_iff_toNat_lt, List.cons.injEq]
    rcases Nat.lt_trichotomy a.toNat b.toNat with h | h | h
    · left; left; exact h
    · have e : a = b := UInt8.toNat_inj.1 h
      subst e
      rcases ih with h | h | h
      · left; right; exact ⟨rfl, h⟩
      · right; left; exact ⟨rfl, h⟩
      · right; right; right; exact ⟨rfl, h⟩
    · right; right; left; exact h
theorem bl_irr : ∀ (x : List UInt8), Op.bytesLess x x = false
  | [] => rfl
  | a :: x => by simp [Op.bytesLess, bl_irr x]
theorem ltS_trans {x y z : ByteArray} (h1 : ltS x y = true) (h2 : ltS y z = true) : ltS x z = true := bl_trans _ _ _ h1 h2
theorem toList_inj {x y : ByteArray} (h : x.toList = y.toList) : x = y := by
  have := bytes_eqb x y
  rw [h] at this
  simpa using this.symm
theorem ltS_tri (x y : ByteArray) : ltS x y = true ∨ x = y ∨ ltS y x = true := by
  rcases bl_tri x.toList y.toList with h | h | h
  · exact .inl h
  · exact .inr (.inl (toList_inj h))
  · exact .inr (.inr h)
theorem ltS_irr (x : ByteArray) : ltS x x = false := bl_irr _

theorem incW_cons {q : ByteArray} {l : List ByteArray} : incW (q :: l) = true ↔ (∀ y ∈ l, ltS q y = true) ∧ incW l = true := by
  induction l generalizing q with
  | nil => simp [incW]
  | cons y l ih =>
    rw [incW, Bool.and_eq_true]
    constructor
    · rintro ⟨h1, h2⟩
      refine ⟨fun z hz => ?_, h2⟩
      rcases List.mem_cons.1 hz with rfl | hz
      · exact h1
      · exact ltS_trans h1 ((ih.1 h2).1 z hz)
    · rintro ⟨h1, h2⟩
      exact ⟨h1 y (by simp), h2⟩
/-- A word put into increasing words. -/
def insS (s : ByteArray) : List ByteArray → List ByteArray
  | [] => [s]
  | q :: l => if ltS s q then s :: q :: l else if s = q then q :: l else q :: insS s l
theorem insDone (s : ByteArray) : ∀ (l acc : List ByteArray), (l.foldl (insStep s) (acc, true)) = (acc ++ l, true)
  | [], acc => by simp
  | q :: l, acc => by
    have h1 : insStep s (acc, true) q = (acc ++ [q], true) := by unfold insStep; simp
    rw [List.foldl_cons, h1, insDone s l]; simp
theorem insRun (s : ByteArray) : ∀ (l acc : List ByteArray), (let st := l.foldl (insStep s) (acc, false); if st.2 then st.1 else st.1 ++ [s]) = acc ++ insS s l
  | [], acc => by simp [insS]
  | q :: l, acc => by
    rw [List.foldl_cons]
    by_cases h1 : ltS s q = true
    · have e : insStep s (acc, false) q = (acc ++ [s] ++ [q], true) := by unfold insStep; simp [h1]
      rw [e, insDone, insS, if_pos h1]; simp
    · by_cases h2 : s = q
      · have e : insStep s (acc, false) q = (acc ++ [q], true) := by subst h2; unfold insStep; simp [ltS_irr]
        rw [e, insDone, insS, if_neg h1, if_pos h2]; simp
      · have e : insStep s (acc, false) q = (acc ++ [q], false) := by unfold insStep; simp [h1, h2]
        rw [e, insRun s l, insS, if_neg h1, if_neg h2]; simp
theorem insW_eq (l : List ByteArray) (s : ByteArray) : insW l s = insS s l := by
  have := insRun s l []
  unfold insW insTo
  rw [List.take_length]
  simpa using this
theorem insS_mem {s y : ByteArray} : ∀ {l : List ByteArray}, y ∈ insS s l → y = s ∨ y ∈ l
  | [], h => .inl (by simpa [insS] using h)
  | q :: l, h => by
    rw [insS] at h
    split at h
    · simpa using h
    · split at h
      · exact .inr h
      · rcases List.mem_cons.1 h with h | h
        · exact .inr (by simp [h])
        · rcases insS_mem h with h | h
          · exact .inl h
          · exact .inr (by simp [h])
theorem insS_inc (s : ByteArray) : ∀ {l : List ByteArray}, incW l = true → incW (insS s l) = true
  | [], _ => rfl
  | q :: l, h => by
    obtain ⟨h1, h2⟩ := incW_cons.1 h
    rw [insS]
    split
    · rename_i e
      rw [incW_cons]
      refine ⟨fun y hy => ?_, h⟩
      rcases List.mem_cons.1 hy with rfl | hy
      · exact e
      · exact ltS_trans e (h1 y hy)
    · rename_i e
      split
      · exact h
      · rename_i e2
        rw [incW_cons]
        refine ⟨fun y hy => ?_, insS_inc s h2⟩
        rcases insS_mem hy with rfl | hy
        · rcases ltS_tri y q with h | h | h
          · exact absurd h e
          · exact absurd h e2
          · exact h
        · exact h1 y hy
theorem insS_len (s : ByteArray) : ∀ l : List ByteArray, (insS s l).length ≤ l.length + 1
  | [] => by simp [insS]
  | q :: l => by
    have := insS_len s l
    rw [insS]
    split
    · simp
    · split
      · simp
      · simp; omega
theorem wsTo_next (x : Raw) (k : Nat) : wsTo x (k + 1) = wsTo x k ∨ ∃ r, wsTo x (k + 1) = insS (wordOf r) (wsTo x k) := by
  by_cases hk : k < x.words.length
  · exact .inr ⟨_, by rw [wsTo_succ (List.getElem?_eq_getElem hk), insW_eq]⟩
  · left; unfold wsTo; rw [List.take_of_length_le (by omega), List.take_of_length_le (by omega)]
theorem wsTo_ok (x : Raw) : ∀ k, incW (wsTo x k) = true ∧ 2 ≤ (wsTo x k).length ∧ (wsTo x k).length ≤ k + 2
  | 0 => by
    show incW ab = true ∧ 2 ≤ ab.length ∧ ab.length ≤ 0 + 2
    decide +kernel
  | k + 1 => by
    obtain ⟨h1, h2, h3⟩ := wsTo_ok x k
    rcases wsTo_next x k with h | ⟨r, h⟩
    · rw [h]; exact ⟨h1, h2, by omega⟩
    · have hge := insW_ge (wsTo x k) (wordOf r)
      rw [insW_eq] at hge
      rw [h]
      have := insS_len (wordOf r) (wsTo x k)
      exact ⟨insS_inc _ h1, by omega, by omega⟩
/-- Counts and sums up to B, at most L pairs. -/
structure Lim (m : Mo) (B : Int) (L : Nat) : Prop where
  ok : MoOK m
  cs : total m.cs ≤ B
  ps : ∀ a, sumAt m.ps a ≤ B
  ln : m.ps.length ≤ L
theorem total_le_len {B : Int} {l : List Int} (h : ∀ x ∈ l, x ≤ B) : total l ≤ B * l.length := by
  induction l with
  | nil => simp [total]
  | cons y l ih =>
    have h1 := ih (fun x hx => h x (List.mem_cons_of_mem _ hx))
    have h2 := h y (List.mem_cons_self)
    simp only [total, List.foldr_cons, List.length_cons] at *
    have : B * ((l.length + 1 : Nat) : Int) = B * (l.length : Int) + B := by rw [Int.natCast_add, Int.mul_add]; omega
    omega
theorem csOK_of {cs : List Int} {n : Nat} (hl : cs.length = n) (h0 : ∀ c ∈ cs, 0 ≤ c) (ht : total cs ≤ 1073741824) : CsOK cs n :=
  CsTo.all (k := cs.length) ⟨fun c hc => h0 c (List.mem_of_mem_take hc), by rw [List.take_length]; exact ht⟩ (Nat.le_refl _) hl
theorem psOK_of {ps : List Pr} {n : Nat} (hl : ps.length ≤ 1000) (hr : ∀ p ∈ ps, PRange n p) (hi : incP ps = true) (hs : ∀ a, sumAt ps a ≤ 1073741824) : PsOK ps n :=
  PsTo.all (k := ps.length) ⟨fun p hp => hr p (List.mem_of_mem_take hp), (incP_iff ps).1 hi, fun a => by rw [List.take_length]; exact hs a⟩ rfl hl
theorem insP_range {n : Nat} {g : Pr} {l : List Pr} (hl : ∀ p ∈ l, PRange n p) (hg : PRange n g) : ∀ p ∈ insP g l, PRange n p := fun p hp => by
  rcases insP_mem hp with rfl | h | ⟨q, hq, h1, h2, rfl⟩
  · exact hg
  · exact hl p h
  · have := hl q hq
    unfold PRange at *
    simp only
    omega
theorem PsGood.ins {n : Nat} {B : Int} {L : Nat} {ps : List Pr} (h : PsGood n B L ps) {g : Pr} (hg : PRange n g) : PsGood n (B + g.n) (L + 1) (insP g ps) := by
  have h0 : 1 ≤ g.n := hg.2.2
  refine ⟨insP_range h.rng hg, insP_inc g h.inc, fun a => ?_, ?_⟩
  · rw [insP_sum]
    have := h.sum a
    split <;> omega
  · have := (insP_len g ps).2
    have := h.len
    omega
theorem psTo_good (x : Raw) (n : Nat) (hn : 0 < n) (hb : ∀ u ∈ x.uses, (0 ≤ u.1 ∧ u.1 ≤ 255) ∧ (0 ≤ u.2.1 ∧ u.2.1 ≤ 255) ∧ (0 ≤ u.2.2 ∧ u.2.2 ≤ 255)) : ∀ k : Nat, PsGood n (16 * k) k (psTo x n k)
  | 0 => ⟨by simp [psTo], rfl, by simp [psTo, sumAt, total], by simp [psTo]⟩
  | k + 1 => by
    have ih := psTo_good x n hn hb k
    by_cases hk : k < x.uses.length
    · have hu := hb x.uses[k] (List.getElem_mem hk)
      rw [psTo_succ (List.getElem?_eq_getElem hk), addP_eq _ ih.inc]
      have h1 := Int.emod_nonneg (x.uses[k].1) (show (n : Int) ≠ 0 by omega)
      have h2 := Int.emod_lt_of_pos (x.uses[k].1) (show (0 : Int) < n by omega)
      have h3 := Int.emod_nonneg (x.uses[k].2.1) (show (n : Int) ≠ 0 by omega)
      have h4 := Int.emod_lt_of_pos (x.uses[k].2.1) (show (0 : Int) < n by omega)
      have hr : PRange n (useP n x.uses[k]) := by
        unfold PRange useP
        simp only
        omega
      refine (ih.ins hr).mono ?_ (Nat.le_refl _)
      unfold useP
      simp only
      omega
    · have : psTo x n (k + 1) = psTo x n k := by unfold psTo; rw [List.take_of_length_le (by omega), List.take_of_length_le (by omega)]
      rw [this]
      exact ih.mono (by omega) (by omega)
theorem csTo_len (x : Raw) (j : Nat) : (csTo x j).length = j := by simp [csTo]
theorem csTo_rng (x : Raw) (j : Nat) (hb : ∀ c ∈ x.counts, 0 ≤ c ∧ c ≤ 255) : ∀ c ∈ csTo x j, 0 ≤ c ∧ c ≤ 255 := fun c hc => by
  unfold csTo at hc
  obtain ⟨i, _, rfl⟩ := List.mem_map.1 hc
  rw [List.getD_eq_getElem?_getD]
  cases h : x.counts[i]? with
  | none => simp
  | some y => exact hb y (List.mem_of_getElem? h)
/-- What Made makes is valid, and small. -/
theorem made_lim (x : Raw) (b2 : ∀ c ∈ x.counts, 0 ≤ c ∧ c ≤ 255) (b3 : ∀ u ∈ x.uses, (0 ≤ u.1 ∧ u.1 ≤ 255) ∧ (0 ≤ u.2.1 ∧ u.2.1 ≤ 255) ∧ (0 ≤ u.2.2 ∧ u.2.2 ≤ 255)) (bk : 0 ≤ x.back ∧ x.back ≤ 255) :
    Lim (madeM x) 2048 8 ∧ 2 ≤ (madeM x).ws.length ∧ (madeM x).ws.length ≤ 8 := by
  obtain ⟨h1, h2, h3⟩ := wsTo_ok x 6
  have hg := psTo_good x (wsTo x 6).length (by omega) b3 8
  have hc := csTo_rng x (wsTo x 6).length b2
  have ht := total_le_len (B := 255) (fun c h => (hc c h).2)
  rw [csTo_len] at ht
  have ht2 : total (csTo x (wsTo x 6).length) ≤ 2048 := by omega
  refine ⟨⟨⟨⟨⟨⟨⟨by show 1 ≤ (wsTo x 6).length; omega, by show (wsTo x 6).length ≤ 200; omega⟩, wsTo_words x 6, h1⟩, ?_⟩, ?_⟩, by show 0 ≤ x.back; omega, by show x.back ≤ 1000; omega⟩, ht2, ?_, hg.len⟩, h2, h3⟩
  · exact csOK_of (csTo_len x _) (fun c h => (hc c h).1) (show total (csTo x (wsTo x 6).length) ≤ _ by omega)
  · exact psOK_of (Nat.le_trans hg.len (by decide)) hg.rng hg.inc (fun a => Int.le_trans (hg.sum a) (by decide))
  · intro a; have := hg.sum a; show sumAt (psTo x _ 8) a ≤ 2048; omega
end Go.Proofs.YtfjkmgjjifhdkaaGreat

/-
  What the statements of layer 11 keep in memory: a model, in a variable of the call's own. What Learn returns, whether it refuses or not.
-/
namespace Go.Proofs.YtfjkmgjjifhdkaaGreat
open Go Go.RowKit

section
variable {m : Mo} {g : Nat} {B1 B2 B3 : Option Addr} {d1 d2 d3 : Nat} {W W' : World}
theorem mb_new {w2 : World} (hm : MoR w2 m B1 B2 B3) (hc : (m.ws.length ≤ d1 ∧ d1 ≤ maxLen) ∧ (m.cs.length ≤ d2 ∧ d2 ≤ maxLen) ∧ (m.ps.length ≤ d3 ∧ d3 ≤ maxLen)) : MB m w2.heap.size B1 B2 B3 d1 d2 d3 (w2.alloc (.cells #[.slice B1 m.ws.length d1, .slice B2 m.cs.length d2, .slice B3 m.ps.length d3, .int .i64 m.back] 56)) :=
  ⟨Blk.new _ _ _, hm.below ((Below.refl _ _).alloc (Nat.le_refl _) _), hc⟩
end
end Go.Proofs.YtfjkmgjjifhdkaaGreat

/-
  The plain law of layer 20: costs of words are small numbers. No program in sight; no conditions.
-/
namespace Go.Proofs.YtfjkmgjjifhdkaaGreat
open List

theorem cx_mkLk_ok {x : La} {m : Mo} {prev : Int} (hm : MoOK m) (hf : FitsL x m.ws.length) (hco : ∀ e ∈ x.es, e.co ≤ 1000) {i k : Nat} {p : Int × Int} {e : Ed} (hp : (nodesL x prev)[i]? = some p) (he : x.es[k]? = some e) (hfr : e.fr = p.1) :
    LkOK ((nodesL x prev).length : Int) (cx_mkLk x m prev i p.2 k) ∧ (cx_mkLk x m prev i p.2 k).cost = e.co + pcost m p.2 e.wd.toNat ∧ e.co ≤ (cx_mkLk x m prev i p.2 k).cost := by
  rw [cx_mkLk_at he]
  have hem := mem_of_getElem? he
  have hok := hf.1.2.2.1 e hem
  have hwd := hf.2 e hem
  have hcs : m.cs.length = m.ws.length := hm.1.1.2.1
  have hce := hco e hem
  have hc := pcost_in hm p.2 (k := e.wd.toNat) (by have := hok.2.1; omega)
  have hin := arr_in hf.1 prev hem
  have hg := ix_get hin
  obtain ⟨hil, _⟩ := List.getElem?_eq_some_iff.1 hg
  have hlt := node_lt hf.1 hp hg (by have := hok.1; unfold arrL; split <;> simp <;> omega)
  obtain ⟨hkl, _⟩ := List.getElem?_eq_some_iff.1 he
  have := hf.1.2.1
  have h3 := hok.2.2
  refine ⟨⟨?_, ?_, ?_, ?_, ?_⟩, rfl, ?_⟩
  · show (0 : Int) ≤ (i : Int); omega
  · show (i : Int) < (ixL (nodesL x prev) (arrL x.n e) : Int); omega
  · show (ixL (nodesL x prev) (arrL x.n e) : Int) < _; omega
  · show (0 : Int) ≤ (k : Int) ∧ (k : Int) ≤ 1000000; omega
  · show 0 ≤ e.co + pcost m p.2 e.wd.toNat ∧ e.co + pcost m p.2 e.wd.toNat ≤ 1000000; omega
  · show e.co ≤ e.co + pcost m p.2 e.wd.toNat; omega
end Go.Proofs.YtfjkmgjjifhdkaaGreat

/-
  Arguments opened: a slice reads as a list of things, whatever memory it lies in; the row's last step where old memory is left alone.
-/
namespace Go.Proofs.YtfjkmgjjifhdkaaGreat
open Go Go.RowKit Go.ChangeShapes Go.WideShapes

section
variable {H : Type} {enc : TypeId × Value → H} {P : Program} {w : World} {base : Nat} {spare : Nat → Bool} {held : Bool}
theorem okWide_array_ {r : Reach} {b0 : Nat} {m : Nat} {t e : TypeId} {v : Value} (ht : P.underlying t = some (.array m e)) (h : Value.okWide P w r b0 t v) : ∃ cs, v = .agg cs := by
  simp only [Value.okWide, ht] at h
  obtain ⟨cs, h1, _⟩ := h
  exact ⟨cs, h1⟩
/-- An argument that is an array of whole numbers. -/
theorem open_arr {r : Reach} {b0 : Nat} {k : IntKind} {t e : TypeId} {m : Nat} {v : Value} {d : DataW H} {p : List MemPlace} (ht : P.underlying t = some (.array m e)) (he : P.underlying e = some (.int k)) (hc : P.cellsOf e = 1) (hct : P.cellsOf t = m)
    (hv : Value.okWide P w r b0 t v) (h : DataW.Trod enc P w base spare held t v d p) : ∃ ns : List Int, ns.length = m ∧ v = .agg (ns.map (Value.int k)).toArray ∧ ∀ n ∈ ns, (Lit.int k n).wf = true := by
  obtain ⟨cs, rfl⟩ := okWide_array_ ht hv
  obtain ⟨fuel, hf⟩ := h
  obtain ⟨ns, h1, h2, h3⟩ := open_arr_ints ht he hc hct hf
  refine ⟨ns, h1, ?_, h3⟩
  have : cs.toList = ns.map (Value.int k) := by simpa [Value.cells] using h2
  rw [← this]
end
end Go.Proofs.YtfjkmgjjifhdkaaGreat

/-
  The statements of layer 11: their arguments opened; the frame of each.
-/
namespace Go.Proofs.YtfjkmgjjifhdkaaGreat
open Go Go.RowKit Go.ChangeShapes Go.WideShapes

section
variable {H : Type} {enc : TypeId × Value → H} {w : World} {base : Nat} {spare : Nat → Bool} {held : Bool}
/-- A slice of bytes. -/
theorem open_u8s {n : Nat} {cs : List Value} {y : DataW H × List MemPlace} (h : DataW.trod enc Tryz.prog w base spare held n 49 cs = some y) :
    ∃ (A : Option Addr) (c : Nat) (xs : List Int), cs = [.slice A xs.length c] ∧ xs.length ≤ c ∧ c ≤ maxLen ∧ SlR 1 RU8 w A xs ∧ ∀ x ∈ xs, 0 ≤ x ∧ x ≤ 255 := by
  obtain ⟨A, len, cap, xs, rfl, hl, hlc, hcm, hs⟩ := open_slr (α := {n : Int // 0 ≤ n ∧ n ≤ 255}) (R := fun _ x vs => vs = [.int .u8 x.1]) Tryz.underlying49 (s := 1) (by kernel_rfl) (by decide) (fun n cs y hh _ => by
    obtain ⟨m, rfl, _, hw⟩ := DataW.trod_int Tryz.underlying5 hh
    exact ⟨⟨m, wf_u8 hw⟩, rfl⟩) h
  subst hl
  refine ⟨A, cap, xs.map (·.1), by simp, by simpa using hlc, hcm, fun hne => ?_, fun x hx => ?_⟩
  · obtain ⟨b, off, hA, hb, hc⟩ := hs (by rintro rfl; simp at hne)
    refine ⟨b, off, hA, hb, fun k x hx => ?_⟩
    rw [List.getElem?_map] at hx
    cases hk : xs[k]? with
    | none => rw [hk] at hx; cases hx
    | some y =>
      rw [hk] at hx
      obtain ⟨vs, h1, h2, h3⟩ := hc k y hk
      exact ⟨vs, by rw [show x = y.1 from (Option.some.inj hx).symm]; exact h1, h2, h3⟩
  · obtain ⟨y, _, rfl⟩ := List.mem_map.1 hx
    exact y.2
set_option maxRecDepth 100000 in
/-- The description of a model. -/
theorem open_raw {r : Reach} {b0 : Nat} {v : Value} {d : DataW H} {p : List MemPlace} (hv : Value.okWide Tryz.prog w r b0 51 v) (h : DataW.Trod enc Tryz.prog w base spare held 51 v d p) :
    ∃ (x : Raw) (A1 A2 A3 : Option Addr) (c1 c2 c3 : Nat), v = .agg #[.slice A1 x.words.length c1, .slice A2 x.counts.length c2, .slice A3 x.uses.length c3, .int .u8 x.back] ∧ RawR w x A1 A2 A3 := by
  obtain ⟨v0, v1, v2, v3, y0, y1, y2, y3, n, rfl, _, _, h0, h1, h2, h3⟩ := Go.Joins.open_agg4 Tryz.underlying51 (by kernel_rfl) (by kernel_rfl) hv h
  obtain ⟨A1, l1, c1, ws, e1, rfl, k1, m1, s1⟩ := open_slr (α := List Int) (R := RRow) Tryz.underlying48 (s := 1) (by kernel_rfl) (by decide) (fun n cs y hh _ => by
    obtain ⟨A, c, xs, rfl, a1, a2, a3, a4⟩ := open_u8s hh
    exact ⟨xs, A, c, rfl, a3, by omega, a4⟩) h0
  obtain ⟨A2, c2, cs, e2, k2, m2, s2, b2⟩ := open_u8s h1
  obtain ⟨A3, l3, c3, us, e3, rfl, k3, m3, s3⟩ := open_slr (α := {u : Int × Int × Int // (0 ≤ u.1 ∧ u.1 ≤ 255) ∧ (0 ≤ u.2.1 ∧ u.2.1 ≤ 255) ∧ (0 ≤ u.2.2 ∧ u.2.2 ≤ 255)}) (R := fun w x vs => RU3 w x.1 vs) Tryz.underlying23 (s := 3) (by kernel_rfl) (by decide) (fun n cs y hh _ => by
    obtain ⟨ns, hl, rfl, hw⟩ := open_arr_ints (k := .u8) Tryz.underlying52 Tryz.underlying5 (by kernel_rfl) (by kernel_rfl) hh
    match ns, hl with
    | [a, b, c], _ => exact ⟨⟨(a, b, c), wf_u8 (hw a (by simp)), wf_u8 (hw b (by simp)), wf_u8 (hw c (by simp))⟩, rfl⟩) h2
  obtain ⟨bk, e4, _, hb⟩ := DataW.trod_int Tryz.underlying5 h3
  simp only [List.cons.injEq, and_true] at e1 e2 e3 e4
  subst e1 e2 e3 e4
  refine ⟨⟨ws, cs, us.map (·.1), bk⟩, A1, A2, A3, c1, c2, c3, by simp, s1, s2, fun hne => ?_, by simp only; omega, by simp only; omega, by simp only [List.length_map]; omega, b2, fun u hu => ?_, wf_u8 hb⟩
  · obtain ⟨b, off, hA, hb, hc⟩ := s3 (by rintro rfl; simp at hne)
    refine ⟨b, off, hA, hb, fun k x hx => ?_⟩
    rw [List.getElem?_map] at hx
    cases hk : us[k]? with
    | none => rw [hk] at hx; cases hx
    | some y =>
      rw [hk] at hx
      obtain ⟨vs, h1, h2, h3⟩ := hc k y hk
      exact ⟨vs, by rw [show x = y.1 from (Option.some.inj hx).symm]; exact h1, h2, h3⟩
  · obtain ⟨y, _, rfl⟩ := List.mem_map.1 hu
    exact y.2
end
end Go.Proofs.YtfjkmgjjifhdkaaGreat
