/-
  The walks of layer 11: Learn, where it goes on.
-/
import Derived.Test.YtbfpcleogdalfaaCostWalkU
import Derived.Test.YtbfpcleogdalfaaCostWalkP
namespace Go.Proofs.Ytbfpcleogdalfaa
open Go Go.RowKit

/-- A frame of Learn: the slots that are read again, and others. -/
def LA (f : Nat → Value) (x1 x2 x3 x8 x11 : Value) : Act := ⟨#[f 0, x1, x2, x3, f 4, f 5, f 6, f 7, x8, f 9, f 10, x11, f 12, f 13, f 14, f 15, f 16, f 17, f 18, f 19, f 20, f 21, f 22, f 23, f 24, f 25, f 26, f 27, f 28, f 29, f 30, f 31, f 32, f 33, f 34, f 35, f 36, f 37, f 38, f 39, f 40, f 41, f 42, f 43, f 44, f 45, f 46, f 47, f 48, f 49, f 50, f 51, f 52, f 53, f 54, f 55, f 56, f 57, f 58, f 59, f 60, f 61, f 62, f 63, f 64, f 65, f 66, f 67, f 68, f 69, f 70, f 71, f 72, f 73, f 74, f 75, f 76], []⟩
theorem arr_of_size {t : Array Value} {n : Nat} (h : t.size = n) : t = ((List.range n).map fun i => t.getD i undef).toArray := by
  refine Array.ext (by simp [h]) fun i h1 h2 => ?_
  simp [Array.getD, h1]
theorem LA_of (a : Act) (hs : a.tmps.size = 77) (hd : a.defers = []) : ∃ f, a = LA f (a.tmps.getD 1 undef) (a.tmps.getD 2 undef) (a.tmps.getD 3 undef) (a.tmps.getD 8 undef) (a.tmps.getD 11 undef) := by
  refine ⟨fun i => a.tmps.getD i undef, ?_⟩
  rcases a with ⟨t, d⟩
  subst hd
  have h := arr_of_size hs
  unfold LA
  exact congrArg (fun t => (⟨t, []⟩ : Act)) h
theorem own_set4 {w : World} {base : Nat} {e : TypeId} {s n : Nat} {v : Value} {xs : List Value} (h : w.ownsRow base e s v n xs) {g : Nat} (hg : v.ownBlock ≠ some g) (v0 v1 v2 v3 : Value) : (set4 w g v0 v1 v2 v3).ownsRow base e s v n xs :=
  own_set (own_set (own_set (own_set h (a := ⟨g, 0, none⟩) hg v0) (a := ⟨g, 1, none⟩) hg v1) (a := ⟨g, 2, none⟩) hg v2) (a := ⟨g, 3, none⟩) hg v3

/-- Behind the three clones. -/
def MidR (m : Mo) (w1 : World) (x1 x2 x3 x8 : Value) (a : Act) (W : World) : Prop :=
  ∃ (kb : Nat) (v1 v2 v3 : Value) (f : Nat → Value), a = LA f x1 x2 x3 x8 (.pointer (some ⟨kb, 0, none⟩)) ∧ w1.heap.size ≤ kb ∧ Blk W kb 34 #[v1, v2, v3, .int .i64 m.back] ∧
    W.ownsRow w1.heap.size 9 1 v1 m.ws.length (m.ws.flatMap (fun x => [Value.string x])) ∧ W.ownsRow w1.heap.size 3 1 v2 m.cs.length (m.cs.flatMap (fun x => [Value.int .i64 x])) ∧ W.ownsRow w1.heap.size 50 3 v3 m.ps.length (m.ps.flatMap encP) ∧
    (v1.ownBlock ≠ some kb ∧ v2.ownBlock ≠ some kb ∧ v3.ownBlock ≠ some kb) ∧ Below w1.heap.size w1 W
theorem mid_end {m : Mo} {w1 W : World} {x1 x2 x3 x8 : Value} (a : Act) (hs : a.tmps.size = 77) (hd : a.defers = []) (h1 : a.tmps.getD 1 undef = x1) (h2 : a.tmps.getD 2 undef = x2) (h3 : a.tmps.getD 3 undef = x3) (h8 : a.tmps.getD 8 undef = x8)
    {kb' : Nat} (h11 : a.tmps.getD 11 undef = .pointer (some ⟨kb', 0, none⟩)) (kb : Nat) (v1 v2 v3 : Value) (hkb : w1.heap.size ≤ kb) (hk : Blk W kb 34 #[v1, v2, v3, .int .i64 m.back])
    (o1 : W.ownsRow w1.heap.size 9 1 v1 m.ws.length (m.ws.flatMap (fun x => [Value.string x]))) (o2 : W.ownsRow w1.heap.size 3 1 v2 m.cs.length (m.cs.flatMap (fun x => [Value.int .i64 x]))) (o3 : W.ownsRow w1.heap.size 50 3 v3 m.ps.length (m.ps.flatMap encP))
    (n1 : v1.ownBlock ≠ some kb) (n2 : v2.ownBlock ≠ some kb) (n3 : v3.ownBlock ≠ some kb) (hS : Below w1.heap.size w1 W) (hkk : kb' = kb := by rfl) : MidR m w1 x1 x2 x3 x8 a W := by
  subst hkk
  obtain ⟨f, hf⟩ := LA_of a hs hd
  rw [h1, h2, h3, h8, h11] at hf
  exact ⟨kb', v1, v2, v3, f, hf, hkb, hk, o1, o2, o3, ⟨n1, n2, n3⟩, hS⟩
theorem region_cut {P : Program} {c : Code} {Q : Exit → Act → World → Prop} {a : Act} {w : World} (R : Act → World → Prop) (hR : ∀ a' w', R a' w' → Q .normal a' w')
    (h : c.wp P (fun e a' w' => match e with | .normal => R a' w' | e => Q e a' w') a w) : c.wp P Q a w :=
  Code.wp_mono (fun e a' w' hh => by cases e <;> first | exact hR _ _ hh | exact hh) h

theorem countP_mem {ps : List Pr} {g q : Pr} (h : q ∈ countP ps g) : q ∈ ps ∨ q = g ∨ ∃ p ∈ ps, q = ⟨p.a, p.b, p.n + g.n⟩ := by
  have hins : q ∈ insAt ps (cutP ps g) g → q ∈ ps ∨ q = g ∨ ∃ p ∈ ps, q = ⟨p.a, p.b, p.n + g.n⟩ := fun h => by
    simp only [insAt, List.mem_append, List.mem_singleton] at h
    rcases h with (h | h) | h
    · exact .inl (List.mem_of_mem_take h)
    · exact .inr (.inl h)
    · exact .inl (List.mem_of_mem_drop h)
  cases hp : ps[cutP ps g]? with
  | none => rw [countP_end hp] at h; exact hins h
  | some p =>
    by_cases he : p.a = g.a ∧ p.b = g.b
    · rw [countP_hit hp he.1 he.2] at h
      rcases List.mem_or_eq_of_mem_set h with h | h
      · exact .inl h
      · exact .inr (.inr ⟨p, List.mem_of_getElem? hp, h⟩)
    · rw [countP_miss hp he] at h; exact hins h
theorem countP_len (ps : List Pr) (g : Pr) (hinc : incP ps = true) : (countP ps g).length ≤ ps.length + 1 := by
  have hc := (cut_spec ps g hinc).hhi
  cases hp : ps[cutP ps g]? with
  | none => rw [countP_end hp, insAt_len _ _ _ hc]; omega
  | some p =>
    by_cases he : p.a = g.a ∧ p.b = g.b
    · rw [countP_hit hp he.1 he.2, List.length_set]; omega
    · rw [countP_miss hp he, insAt_len _ _ _ hc]; omega
theorem countP_within {m : Int} (ps : List Pr) (g : Pr) (h : ∀ p ∈ ps, -m ≤ p.n ∧ p.n ≤ m) (hg : -m ≤ g.n ∧ g.n ≤ m) (hm : 2 * m ≤ 4294967296 := by decide) : Within 4294967296 ((countP ps g).map Pr.n) := fun y hy => by
  obtain ⟨q, hq, rfl⟩ := List.mem_map.1 hy
  rcases countP_mem hq with h1 | h1 | ⟨p, h1, h2⟩
  · have := h q h1; omega
  · rw [h1]; omega
  · rw [h2]; have := h p h1; simp only; omega

/-- Rows of the call's own are a model. -/
theorem mor_own {W : World} {base : Nat} {m : Mo} {B1 B2 B3 : Option Addr} {d1 d2 d3 : Nat} (o1 : W.ownsRow base 9 1 (.slice B1 m.ws.length d1) m.ws.length (m.ws.flatMap (fun x => [Value.string x]))) (o2 : W.ownsRow base 3 1 (.slice B2 m.cs.length d2) m.cs.length (m.cs.flatMap (fun x => [Value.int .i64 x])))
    (o3 : W.ownsRow base 50 3 (.slice B3 m.ps.length d3) m.ps.length (m.ps.flatMap encP)) (l1 : m.ws.length ≤ 65536) (l2 : m.cs.length ≤ 65536) (l3 : m.ps.length ≤ 65536) (hs : ∀ s ∈ m.ws, s.size ≤ maxLen) (hn : Within 4294967296 (m.ps.map Pr.n)) :
    MoR W m B1 B2 B3 ∧ ((m.ws.length ≤ d1 ∧ d1 ≤ maxLen) ∧ (m.cs.length ≤ d2 ∧ d2 ≤ maxLen) ∧ (m.ps.length ≤ d3 ∧ d3 ≤ maxLen)) := by
  obtain ⟨C1, e1, h1, k1, m1, s1⟩ := own_slr (R := RStr) o1 (fun _ => rfl) (fun _ => rfl) rfl
  obtain ⟨C2, e2, h2, k2, m2, s2⟩ := own_slr (R := RInt) o2 (fun _ => rfl) (fun _ => rfl) rfl
  obtain ⟨C3, e3, h3, k3, m3, s3⟩ := own_slr (R := RPr) o3 (fun _ => rfl) (fun _ => rfl) rfl
  injection h1 with h1 _ j1
  injection h2 with h2 _ j2
  injection h3 with h3 _ j3
  subst h1 h2 h3 j1 j2 j3
  exact ⟨⟨s1, s2, s3, l1, l2, l3, hs, hn⟩, ⟨k1, m1⟩, ⟨k2, m2⟩, ⟨k3, m3⟩⟩
/-- One number of a row of the call's own is stored. -/
theorem own_seti {W : World} {base : Nat} {cs : List Int} {g d : Nat} (o : W.ownsRow base 3 1 (.slice (some ⟨g, 0, none⟩) cs.length d) cs.length (cs.flatMap (fun x => [Value.int .i64 x]))) (j : Nat) (hj : j < cs.length) (v : Int) :
    (W.setCell ⟨g, j, none⟩ (.int .i64 v)).ownsRow base 3 1 (.slice (some ⟨g, 0, none⟩) cs.length d) cs.length ((cs.set j v).flatMap (fun x => [Value.int .i64 x])) ∧ base ≤ g ∧ W.frozen? ⟨g, j, none⟩ = false ∧ ∃ y, cs[j]? = some y ∧ W.cell? ⟨g, j, none⟩ = some (.int .i64 y) := by
  obtain ⟨g2, c2', cur, hv, hg, hblk, hnc, hcm, hcl, htk⟩ := blk_of_own o (by omega)
  injection hv with hv _ h3
  injection hv with hv
  injection hv with hv
  subst hv h3
  refine ⟨?_, hg, hblk.frozen _, cs[j], List.getElem?_eq_getElem hj, ?_⟩
  · have h := own_of_blk (base := base) (s := 1) (show Blk _ g 3 (cur.set j (.int .i64 v)).toArray by simpa using hblk.set_ j (.int .i64 v)) hg hnc hcm (by simpa using hcl)
    rw [List.take_set, htk, flatMap_one, ← List.map_set, ← flatMap_one] at h
    exact h
  · refine cells_of_take hblk htk j _ ?_
    rw [flatMap_one]
    simp [hj]

set_option maxRecDepth 100000 in
set_option maxHeartbeats 8000000 in
theorem learn_go (m : Mo) (A1 A2 A3 : Option Addr) (c1 c2 c3 : Nat) (prev wd n : Int) (w : World) (h : MoR w m A1 A2 A3) (hyes : LearnOK m prev wd n) :
    Calls Try.prog 16 #[.agg #[.slice A1 m.ws.length c1, .slice A2 m.cs.length c2, .slice A3 m.ps.length c3, .int .i64 m.back], .int .i64 prev, .int .i64 wd, .int .i64 n] w (GivesL (learnM m prev wd n) w) := by
  have hB : Below w.heap.size w ((w.alloc (.cells #[.slice A1 m.ws.length c1, .slice A2 m.cs.length c2, .slice A3 m.ps.length c3, .int .i64 m.back] 34)).alloc (.cells #[.slice none 0 0, .slice none 0 0, .slice none 0 0, .int .i64 0] 34)) := ((Below.refl _ _).alloc (Nat.le_refl _) _).alloc (by simp) _
  have HM := Lib.hid (h.below hB)
  obtain ⟨⟨h1, h2, h3, h4, h5⟩, hok⟩ := hyes
  have HL1 := Lib.hid h.l1
  have HL2 := Lib.hid h.l2
  have HL3 := Lib.hid h.l3
  have HOK := Lib.hid hok
  have HY := Lib.hid (show LearnOK m prev wd n from ⟨⟨h1, h2, h3, h4, h5⟩, hok⟩)
  have HVC := Lib.hid (valid_any m A1 A2 A3 c1 c2 c3 _ HM.out)
  rw [show decide (MoOK m) = true from decide_eq_true hok] at HVC
  have hx0 : ((w.alloc (.cells #[.slice A1 m.ws.length c1, .slice A2 m.cs.length c2, .slice A3 m.ps.length c3, .int .i64 m.back] 34)).alloc (.cells #[.slice none 0 0, .slice none 0 0, .slice none 0 0, .int .i64 0] 34)).cell? ⟨w.heap.size, 0, none⟩ = some (.slice A1 m.ws.length c1) := (World.cell?_alloc_lt _ _ ⟨w.heap.size, 0, none⟩ (by simp)).trans (new_cell _ _ _ 0)
  have hx1 : ((w.alloc (.cells #[.slice A1 m.ws.length c1, .slice A2 m.cs.length c2, .slice A3 m.ps.length c3, .int .i64 m.back] 34)).alloc (.cells #[.slice none 0 0, .slice none 0 0, .slice none 0 0, .int .i64 0] 34)).cell? ⟨w.heap.size, 1, none⟩ = some (.slice A2 m.cs.length c2) := (World.cell?_alloc_lt _ _ ⟨w.heap.size, 1, none⟩ (by simp)).trans (new_cell _ _ _ 1)
  have hx2 : ((w.alloc (.cells #[.slice A1 m.ws.length c1, .slice A2 m.cs.length c2, .slice A3 m.ps.length c3, .int .i64 m.back] 34)).alloc (.cells #[.slice none 0 0, .slice none 0 0, .slice none 0 0, .int .i64 0] 34)).cell? ⟨w.heap.size, 2, none⟩ = some (.slice A3 m.ps.length c3) := (World.cell?_alloc_lt _ _ ⟨w.heap.size, 2, none⟩ (by simp)).trans (new_cell _ _ _ 2)
  have hx3 : ((w.alloc (.cells #[.slice A1 m.ws.length c1, .slice A2 m.cs.length c2, .slice A3 m.ps.length c3, .int .i64 m.back] 34)).alloc (.cells #[.slice none 0 0, .slice none 0 0, .slice none 0 0, .int .i64 0] 34)).cell? ⟨w.heap.size, 3, none⟩ = some (.int .i64 m.back) := (World.cell?_alloc_lt _ _ ⟨w.heap.size, 3, none⟩ (by simp)).trans (new_cell _ _ _ 3)
  clear h hok
  go_enter Try.func16, Try.ntmps16
  go_wp2_with (go_at_call 19; refine HVC.out.mono ?_; rintro e w1 ⟨rfl, hb1⟩; have b0 := (hb1.cell (p := ⟨w.heap.size, 0, none⟩) (by simp; omega)).trans hx0; have b1 := (hb1.cell (p := ⟨w.heap.size, 1, none⟩) (by simp; omega)).trans hx1; have b2 := (hb1.cell (p := ⟨w.heap.size, 2, none⟩) (by simp; omega)).trans hx2; have b3 := (hb1.cell (p := ⟨w.heap.size, 3, none⟩) (by simp; omega)).trans hx3; have hz := (Blk.new_ (w := w.alloc (.cells #[.slice A1 m.ws.length c1, .slice A2 m.cs.length c2, .slice A3 m.ps.length c3, .int .i64 m.back] 34)) (t := 34) (cs := #[.slice none 0 0, .slice none 0 0, .slice none 0 0, .int .i64 0]) (g := w.heap.size + 1) (by simp)).below hb1 (by simp); have hs1 : w.heap.size + 1 < w1.heap.size := (by have := hb1.size; simp at this; omega); have hs0 : w.heap.size < w1.heap.size := Nat.lt_of_succ_lt hs1)
  have HM1 : Hid (∀ W, Below w1.heap.size w1 W → MoR W m A1 A2 A3) := fun W hW => (HM.out.below hb1).below hW
  have HB1 := Lib.hid hb1
  have HZ := Lib.hid hz
  clear hb1 hz hx0 hx1 hx2 hx3
  refine region_cut (MidR m w1 (.int .i64 prev) (.int .i64 wd) (.int .i64 n) (.pointer (some ⟨w.heap.size + 1, 0, none⟩))) ?_ ?_
  rotate_left 1
  · refine ordB_below (.quiet 0 (.quiet 1 (.quiet 3 (.quiet 4 (.quiet 6 (.quiet 7 (.quiet 9 (.quiet 10 (.fork 2 12 (.fork 5 12 (.fork 8 12 (.quiet 11 (.only 12 (.only 13 .done))) (.only 8 (.quiet 11 (.only 13 .done)))) (.only 5 (.only 8 (.quiet 11 (.only 13 .done))))) (.only 2 (.only 5 (.only 8 (.quiet 11 (.only 13 .done)))))))))))))) (by kernel_rfl) (by kernel_rfl) (by kernel_rfl) (fun _ _ _ _ _ h => h) ?_
    intro W0 hS
    repeat (first
      | (refine ordB_skip rfl rfl ?_; simp only [Act.put, List.setIfInBounds_toArray, List.set_cons_zero, List.set_cons_succ])
      | (refine ordB_take (v := ?_) rfl rfl ?_ ?_
         rotate_left 1
         focus (intro W hW; obtain ⟨hcW, hfW⟩ := bcell hW; (go_simp <;> with_reducible rfl))
         simp only [Act.put, List.setIfInBounds_toArray, List.set_cons_zero, List.set_cons_succ]))
    refine ordB_fork (opB_call rfl rfl (fun K hK => ?_)) (opB_call rfl rfl (fun K hK => ?_))
    · skip
      go_simp
      go_at_call 32
      refine (cloneS_any A1 m.ws c1 _ (HM1.out _ hS).h1 HL1.out).mono ?_
      rintro e x1 ⟨v1, rfl, ho1, hb1⟩
      obtain ⟨B1, d1, rfl, _, _, _⟩ := own_slr (R := RStr) ho1 (fun _ => rfl) (fun _ => rfl) rfl
      have ho1 := own_base ho1 hS.size
      refine hK.out _ _ (hS.trans (hb1.mono hS.size)) (fun hS => ?_)
      skip
      refine ordB_fork (opB_call rfl rfl (fun K hK => ?_)) (opB_call rfl rfl (fun K hK => ?_))
      · skip
        go_simp
        go_at_call 33
        refine (cloneI_any A2 m.cs c2 _ (HM1.out _ hS).h2 HL2.out).mono ?_
        rintro e x2 ⟨v2, rfl, ho2, hb2⟩
        obtain ⟨B2, d2, rfl, _, _, _⟩ := own_slr (R := RInt) ho2 (fun _ => rfl) (fun _ => rfl) rfl
        have ho1 := own_below ho1 hb2
        have ho2 := own_base ho2 hS.size
        refine hK.out _ _ (hS.trans (hb2.mono hS.size)) (fun hS => ?_)
        skip
        refine ordB_fork (opB_call rfl rfl (fun K hK => ?_)) (opB_call rfl rfl (fun K hK => ?_))
        · skip
          go_simp
          go_at_call 34
          refine (cloneP_any A3 m.ps c3 _ (HM1.out _ hS).h3 HL3.out).mono ?_
          rintro e x3 ⟨v3, rfl, ho3, hb3⟩
          obtain ⟨B3, d3, rfl, _, _, _⟩ := own_slr (R := RPr) ho3 (fun _ => rfl) (fun _ => rfl) rfl
          have ho1 := own_below ho1 hb3
          have ho2 := own_below ho2 hb3
          have ho3 := own_base ho3 hS.size
          refine hK.out _ _ (hS.trans (hb3.mono hS.size)) (fun hS => ?_)
          skip
          repeat (first
            | (refine ordB_skip rfl rfl ?_; simp only [Act.put, List.setIfInBounds_toArray, List.set_cons_zero, List.set_cons_succ])
            | (refine ordB_take (v := ?_) rfl rfl ?_ ?_
               rotate_left 1
               focus (intro W hW; obtain ⟨hcW, hfW⟩ := bcell hW; (go_simp <;> with_reducible rfl))
               simp only [Act.put, List.setIfInBounds_toArray, List.set_cons_zero, List.set_cons_succ]))
          refine ordB_only (opB_call rfl rfl (fun K hK => ?_))
          go_simp
          have n1 := own_lt ho1 (Nat.le_refl x3.heap.size)
          have ho1 := ho1.alloc (.cells #[.slice none 0 0, .slice none 0 0, .slice none 0 0, .int .i64 0] 34)
          have n2 := own_lt ho2 (Nat.le_refl x3.heap.size)
          have ho2 := ho2.alloc (.cells #[.slice none 0 0, .slice none 0 0, .slice none 0 0, .int .i64 0] 34)
          have n3 := own_lt ho3 (Nat.le_refl x3.heap.size)
          have ho3 := ho3.alloc (.cells #[.slice none 0 0, .slice none 0 0, .slice none 0 0, .int .i64 0] 34)
          have hkb := hS.size
          have hk := Blk.new x3 34 #[.slice none 0 0, .slice none 0 0, .slice none 0 0, .int .i64 0]
          refine hK.out _ _ (hS.alloc hS.size _) (fun hS => ?_)
          generalize x3.alloc (.cells #[.slice none 0 0, .slice none 0 0, .slice none 0 0, .int .i64 0] 34) = xa at *
          generalize x3.heap.size = kb at *
          repeat (first
            | (refine ordB_skip rfl rfl ?_; simp only [Act.put, List.setIfInBounds_toArray, List.set_cons_zero, List.set_cons_succ])
            | (refine ordB_take (v := ?_) rfl rfl ?_ ?_
               rotate_left 1
               focus (intro W hW; obtain ⟨hcW, hfW⟩ := bcell hW; (go_simp <;> with_reducible rfl))
               simp only [Act.put, List.setIfInBounds_toArray, List.set_cons_zero, List.set_cons_succ]))
          have q0 := hk.cell 0
          have q1 := hk.cell 1
          have q2 := hk.cell 2
          have q3 := hk.cell 3
          have g0 := hk.frozen 0
          have g1 := hk.frozen 1
          have g2 := hk.frozen 2
          have g3 := hk.frozen 3
          refine ordB_only (opB_call rfl rfl (fun K hK => ?_))
          go_simp
          refine hK.out _ _ (hS.trans (set4_below _ _ _ _ _ _ hkb)) (fun hS => ?_)
          refine ordB_nil ?_
          exact mid_end _ rfl rfl rfl rfl rfl rfl rfl kb _ _ _ hkb (hk.set4 _ _ _ _) (own_set4 ho1 n1 _ _ _ _) (own_set4 ho2 n2 _ _ _ _) (own_set4 ho3 n3 _ _ _ _) n1 n2 n3 hS
        · skip
          go_simp
          have n1 := own_lt ho1 (Nat.le_refl x2.heap.size)
          have ho1 := ho1.alloc (.cells #[.slice none 0 0, .slice none 0 0, .slice none 0 0, .int .i64 0] 34)
          have n2 := own_lt ho2 (Nat.le_refl x2.heap.size)
          have ho2 := ho2.alloc (.cells #[.slice none 0 0, .slice none 0 0, .slice none 0 0, .int .i64 0] 34)
          have hkb := hS.size
          have hk := Blk.new x2 34 #[.slice none 0 0, .slice none 0 0, .slice none 0 0, .int .i64 0]
          refine hK.out _ _ (hS.alloc hS.size _) (fun hS => ?_)
          generalize x2.alloc (.cells #[.slice none 0 0, .slice none 0 0, .slice none 0 0, .int .i64 0] 34) = xa at *
          generalize x2.heap.size = kb at *
          refine ordB_only (opB_call rfl rfl (fun K hK => ?_))
          go_simp
          go_at_call 34
          refine (cloneP_any A3 m.ps c3 _ (HM1.out _ hS).h3 HL3.out).mono ?_
          rintro e x3 ⟨v3, rfl, ho3, hb3⟩
          obtain ⟨B3, d3, rfl, _, _, _⟩ := own_slr (R := RPr) ho3 (fun _ => rfl) (fun _ => rfl) rfl
          have ho1 := own_below ho1 hb3
          have ho2 := own_below ho2 hb3
          have n3 : (Value.slice B3 m.ps.length d3).ownBlock ≠ some kb := fun e => by have := own_block_le ho3 _ e; have := hk.lt; omega
          have hk := hk.below hb3 hk.lt
          have ho3 := own_base ho3 hS.size
          refine hK.out _ _ (hS.trans (hb3.mono hS.size)) (fun hS => ?_)
          skip
          repeat (first
            | (refine ordB_skip rfl rfl ?_; simp only [Act.put, List.setIfInBounds_toArray, List.set_cons_zero, List.set_cons_succ])
            | (refine ordB_take (v := ?_) rfl rfl ?_ ?_
               rotate_left 1
               focus (intro W hW; obtain ⟨hcW, hfW⟩ := bcell hW; (go_simp <;> with_reducible rfl))
               simp only [Act.put, List.setIfInBounds_toArray, List.set_cons_zero, List.set_cons_succ]))
          have q0 := hk.cell 0
          have q1 := hk.cell 1
          have q2 := hk.cell 2
          have q3 := hk.cell 3
          have g0 := hk.frozen 0
          have g1 := hk.frozen 1
          have g2 := hk.frozen 2
          have g3 := hk.frozen 3
          refine ordB_only (opB_call rfl rfl (fun K hK => ?_))
          go_simp
          refine hK.out _ _ (hS.trans (set4_below _ _ _ _ _ _ hkb)) (fun hS => ?_)
          refine ordB_nil ?_
          exact mid_end _ rfl rfl rfl rfl rfl rfl rfl kb _ _ _ hkb (hk.set4 _ _ _ _) (own_set4 ho1 n1 _ _ _ _) (own_set4 ho2 n2 _ _ _ _) (own_set4 ho3 n3 _ _ _ _) n1 n2 n3 hS
      · skip
        go_simp
        have n1 := own_lt ho1 (Nat.le_refl x1.heap.size)
        have ho1 := ho1.alloc (.cells #[.slice none 0 0, .slice none 0 0, .slice none 0 0, .int .i64 0] 34)
        have hkb := hS.size
        have hk := Blk.new x1 34 #[.slice none 0 0, .slice none 0 0, .slice none 0 0, .int .i64 0]
        refine hK.out _ _ (hS.alloc hS.size _) (fun hS => ?_)
        generalize x1.alloc (.cells #[.slice none 0 0, .slice none 0 0, .slice none 0 0, .int .i64 0] 34) = xa at *
        generalize x1.heap.size = kb at *
        refine ordB_only (opB_call rfl rfl (fun K hK => ?_))
        go_simp
        go_at_call 33
        refine (cloneI_any A2 m.cs c2 _ (HM1.out _ hS).h2 HL2.out).mono ?_
        rintro e x2 ⟨v2, rfl, ho2, hb2⟩
        obtain ⟨B2, d2, rfl, _, _, _⟩ := own_slr (R := RInt) ho2 (fun _ => rfl) (fun _ => rfl) rfl
        have ho1 := own_below ho1 hb2
        have n2 : (Value.slice B2 m.cs.length d2).ownBlock ≠ some kb := fun e => by have := own_block_le ho2 _ e; have := hk.lt; omega
        have hk := hk.below hb2 hk.lt
        have ho2 := own_base ho2 hS.size
        refine hK.out _ _ (hS.trans (hb2.mono hS.size)) (fun hS => ?_)
        skip
        refine ordB_only (opB_call rfl rfl (fun K hK => ?_))
        go_simp
        go_at_call 34
        refine (cloneP_any A3 m.ps c3 _ (HM1.out _ hS).h3 HL3.out).mono ?_
        rintro e x3 ⟨v3, rfl, ho3, hb3⟩
        obtain ⟨B3, d3, rfl, _, _, _⟩ := own_slr (R := RPr) ho3 (fun _ => rfl) (fun _ => rfl) rfl
        have ho1 := own_below ho1 hb3
        have ho2 := own_below ho2 hb3
        have n3 : (Value.slice B3 m.ps.length d3).ownBlock ≠ some kb := fun e => by have := own_block_le ho3 _ e; have := hk.lt; omega
        have hk := hk.below hb3 hk.lt
        have ho3 := own_base ho3 hS.size
        refine hK.out _ _ (hS.trans (hb3.mono hS.size)) (fun hS => ?_)
        skip
        repeat (first
          | (refine ordB_skip rfl rfl ?_; simp only [Act.put, List.setIfInBounds_toArray, List.set_cons_zero, List.set_cons_succ])
          | (refine ordB_take (v := ?_) rfl rfl ?_ ?_
             rotate_left 1
             focus (intro W hW; obtain ⟨hcW, hfW⟩ := bcell hW; (go_simp <;> with_reducible rfl))
             simp only [Act.put, List.setIfInBounds_toArray, List.set_cons_zero, List.set_cons_succ]))
        have q0 := hk.cell 0
        have q1 := hk.cell 1
        have q2 := hk.cell 2
        have q3 := hk.cell 3
        have g0 := hk.frozen 0
        have g1 := hk.frozen 1
        have g2 := hk.frozen 2
        have g3 := hk.frozen 3
        refine ordB_only (opB_call rfl rfl (fun K hK => ?_))
        go_simp
        refine hK.out _ _ (hS.trans (set4_below _ _ _ _ _ _ hkb)) (fun hS => ?_)
        refine ordB_nil ?_
        exact mid_end _ rfl rfl rfl rfl rfl rfl rfl kb _ _ _ hkb (hk.set4 _ _ _ _) (own_set4 ho1 n1 _ _ _ _) (own_set4 ho2 n2 _ _ _ _) (own_set4 ho3 n3 _ _ _ _) n1 n2 n3 hS
    · skip
      go_simp
      have hkb := hS.size
      have hk := Blk.new W0 34 #[.slice none 0 0, .slice none 0 0, .slice none 0 0, .int .i64 0]
      refine hK.out _ _ (hS.alloc hS.size _) (fun hS => ?_)
      generalize W0.alloc (.cells #[.slice none 0 0, .slice none 0 0, .slice none 0 0, .int .i64 0] 34) = xa at *
      generalize W0.heap.size = kb at *
      refine ordB_only (opB_call rfl rfl (fun K hK => ?_))
      go_simp
      go_at_call 32
      refine (cloneS_any A1 m.ws c1 _ (HM1.out _ hS).h1 HL1.out).mono ?_
      rintro e x1 ⟨v1, rfl, ho1, hb1⟩
      obtain ⟨B1, d1, rfl, _, _, _⟩ := own_slr (R := RStr) ho1 (fun _ => rfl) (fun _ => rfl) rfl
      have n1 : (Value.slice B1 m.ws.length d1).ownBlock ≠ some kb := fun e => by have := own_block_le ho1 _ e; have := hk.lt; omega
      have hk := hk.below hb1 hk.lt
      have ho1 := own_base ho1 hS.size
      refine hK.out _ _ (hS.trans (hb1.mono hS.size)) (fun hS => ?_)
      skip
      refine ordB_only (opB_call rfl rfl (fun K hK => ?_))
      go_simp
      go_at_call 33
      refine (cloneI_any A2 m.cs c2 _ (HM1.out _ hS).h2 HL2.out).mono ?_
      rintro e x2 ⟨v2, rfl, ho2, hb2⟩
      obtain ⟨B2, d2, rfl, _, _, _⟩ := own_slr (R := RInt) ho2 (fun _ => rfl) (fun _ => rfl) rfl
      have ho1 := own_below ho1 hb2
      have n2 : (Value.slice B2 m.cs.length d2).ownBlock ≠ some kb := fun e => by have := own_block_le ho2 _ e; have := hk.lt; omega
      have hk := hk.below hb2 hk.lt
      have ho2 := own_base ho2 hS.size
      refine hK.out _ _ (hS.trans (hb2.mono hS.size)) (fun hS => ?_)
      skip
      refine ordB_only (opB_call rfl rfl (fun K hK => ?_))
      go_simp
      go_at_call 34
      refine (cloneP_any A3 m.ps c3 _ (HM1.out _ hS).h3 HL3.out).mono ?_
      rintro e x3 ⟨v3, rfl, ho3, hb3⟩
      obtain ⟨B3, d3, rfl, _, _, _⟩ := own_slr (R := RPr) ho3 (fun _ => rfl) (fun _ => rfl) rfl
      have ho1 := own_below ho1 hb3
      have ho2 := own_below ho2 hb3
      have n3 : (Value.slice B3 m.ps.length d3).ownBlock ≠ some kb := fun e => by have := own_block_le ho3 _ e; have := hk.lt; omega
      have hk := hk.below hb3 hk.lt
      have ho3 := own_base ho3 hS.size
      refine hK.out _ _ (hS.trans (hb3.mono hS.size)) (fun hS => ?_)
      skip
      repeat (first
        | (refine ordB_skip rfl rfl ?_; simp only [Act.put, List.setIfInBounds_toArray, List.set_cons_zero, List.set_cons_succ])
        | (refine ordB_take (v := ?_) rfl rfl ?_ ?_
           rotate_left 1
           focus (intro W hW; obtain ⟨hcW, hfW⟩ := bcell hW; (go_simp <;> with_reducible rfl))
           simp only [Act.put, List.setIfInBounds_toArray, List.set_cons_zero, List.set_cons_succ]))
      have q0 := hk.cell 0
      have q1 := hk.cell 1
      have q2 := hk.cell 2
      have q3 := hk.cell 3
      have g0 := hk.frozen 0
      have g1 := hk.frozen 1
      have g2 := hk.frozen 2
      have g3 := hk.frozen 3
      refine ordB_only (opB_call rfl rfl (fun K hK => ?_))
      go_simp
      refine hK.out _ _ (hS.trans (set4_below _ _ _ _ _ _ hkb)) (fun hS => ?_)
      refine ordB_nil ?_
      exact mid_end _ rfl rfl rfl rfl rfl rfl rfl kb _ _ _ hkb (hk.set4 _ _ _ _) (own_set4 ho1 n1 _ _ _ _) (own_set4 ho2 n2 _ _ _ _) (own_set4 ho3 n3 _ _ _ _) n1 n2 n3 hS
  · rintro _ W ⟨kb, v1, v2, v3, f, rfl, hkb, hk, o1, o2, o3, ⟨n1, n2, n3⟩, hS⟩
    obtain ⟨B1, d1, rfl, k1, m1, _⟩ := own_slr (R := RStr) o1 (fun _ => rfl) (fun _ => rfl) rfl
    obtain ⟨B2, d2, rfl, k2, m2, s2⟩ := own_slr (R := RInt) o2 (fun _ => rfl) (fun _ => rfl) rfl
    obtain ⟨B3, d3, rfl, k3, m3, _⟩ := own_slr (R := RPr) o3 (fun _ => rfl) (fun _ => rfl) rfl
    obtain ⟨j, rfl⟩ := Int.eq_ofNat_of_zero_le h3
    have HCW := Lib.hid (show m.cs.length = m.ws.length from HOK.out.1.1.2.1)
    have hj : j < m.cs.length := by have := HCW.out; omega
    obtain ⟨g2, c2', cur2, hv2, _, _, _, _, _, _⟩ := blk_of_own o2 (by omega)
    injection hv2 with hv2 _ hv3
    subst hv2
    subst hv3
    have hg2k : kb ≠ g2 := fun e => n2 (by rw [e]; rfl)
    obtain ⟨y, HYJ, hyc, hyf, hg2⟩ : ∃ y, Hid (m.cs[j]? = some y) ∧ W.cell? ⟨g2, j, none⟩ = some (.int .i64 y) ∧ W.frozen? ⟨g2, j, none⟩ = false ∧ w1.heap.size ≤ g2 := by
      obtain ⟨_, h1, h2, y, h3, h4⟩ := own_seti o2 j hj 0
      exact ⟨y, h3, h4, h2, h1⟩
    have hyb := HOK.out.1.1.2.2.1 y (List.mem_of_getElem? HYJ.out)
    have HO2 := Lib.hid (own_seti o2 j hj (y + n)).1
    have hjx : (j : Int) < (m.cs.length : Int) := by omega
    have hyw : IntKind.i64.wrap (y + n) = y + n := by rw [IntKind.wrap_i64]; omega
    have HO1 := Lib.hid (own_set o1 (a := ⟨g2, j, none⟩) (fun e => own_ne o1 o2 (by decide) g2 e rfl) (.int .i64 (y + n)))
    have HO3 := Lib.hid (own_set o3 (a := ⟨g2, j, none⟩) (fun e => own_ne o3 o2 (by decide) g2 e rfl) (.int .i64 (y + n)))
    have HK := Lib.hid (hk.far (p := ⟨g2, j, none⟩) hg2k (.int .i64 (y + n)))
    have HS := Lib.hid (hS.setCell (show w1.heap.size ≤ (Addr.mk g2 j none).block from hg2) (.int .i64 (y + n)))
    have hsz := hS.size
    have q0 := hk.cell 0
    have q1 := hk.cell 1
    have q2 := hk.cell 2
    have q3 := hk.cell 3
    unfold LA
    clear o1 o2 o3 hS
    by_cases hp : 0 ≤ prev
    · have HNX := Lib.hid (show nextM m prev j n = ⟨m.ws, m.cs.set j (y + n), countP m.ps ⟨prev, j, n⟩, m.back⟩ by
        unfold nextM
        rw [if_pos hp, show ((j : Int)).toNat = j from rfl, List.getD_eq_getElem?_getD, HYJ.out]; rfl)
      have hcl4 := countP_len m.ps ⟨prev, j, n⟩ HOK.out.1.2.2.2
      have hcw4 := countP_within (m := 1073741824) m.ps ⟨prev, j, n⟩ (fun p hp => ⟨by have := (HOK.out.1.2.2.1 p hp).1; unfold PRange at this; omega, (HOK.out.1.2.2.1 p hp).2.1⟩) (by simp; omega)
      have HCT := Lib.hid (count_any B3 d3 m.ps ⟨prev, j, n⟩ w1.heap.size _ HO3.out k3 m3 HOK.out.1.2.2.2 HL3.out HS.out.size (fun p hp => by have h1 := (HOK.out.1.2.2.1 p hp).1; have h2 := (HOK.out.1.2.2.1 p hp).2.1; unfold PRange at h1; omega) (by simp; omega))
      have HPL := Lib.hid HOK.out.1.2.1
      have HCL4 := Lib.hid hcl4
      have HCW4 := Lib.hid hcw4
      clear hcl4 hcw4
      by_cases hval : MoOK ⟨m.ws, m.cs.set j (y + n), countP m.ps ⟨prev, j, n⟩, m.back⟩
      · go_wp2_with (first | (go_at_call 35; go_loud (refine HCT.out.mono ?_; rintro e w3 ⟨v4, rfl, ho4, hb4, ha4⟩; obtain ⟨B4, d4, rfl, k4, m4, _⟩ := own_slr (R := RPr) ho4 (fun _ => rfl) (fun _ => rfl) rfl; have hk3 := HK.out.apps ha4 (own_blk_ne HO3.out HK.out (by decide)); have hk3f := hk3.frozen 2; have hk3c := hk3.cell 2; have hk3d := hk3.cell 0; have hk3e := hk3.cell 1; have hk3g := hk3.cell 3)) | (go_at_call 19; go_loud (have HO14 := Lib.hid (own_set (own_apps HO1.out HO3.out (by decide) ha4) (a := ⟨kb, 2, none⟩) n1 (.slice B4 (countP m.ps ⟨prev, j, n⟩).length d4)); have HO24 := Lib.hid (own_set (own_apps HO2.out HO3.out (by decide) ha4) (a := ⟨kb, 2, none⟩) n2 (.slice B4 (countP m.ps ⟨prev, j, n⟩).length d4)); have HO34 := Lib.hid (own_set ho4 (a := ⟨kb, 2, none⟩) (own_blk_ne ho4 hk3 (by decide)) (.slice B4 (countP m.ps ⟨prev, j, n⟩).length d4)); have HK4 := Lib.hid (hk3.set_ 2 (.slice B4 (countP m.ps ⟨prev, j, n⟩).length d4)); have HS4 := Lib.hid ((HS.out.trans hb4).setCell (show w1.heap.size ≤ (Addr.mk kb 2 none).block from hkb) (.slice B4 (countP m.ps ⟨prev, j, n⟩).length d4)); have HMN := Lib.hid (mor_own (m := ⟨m.ws, m.cs.set j (y + n), countP m.ps ⟨prev, j, n⟩, m.back⟩) HO14.out (by simpa using HO24.out) HO34.out HL1.out (by simpa using HL2.out) (Nat.le_trans HCL4.out (by have := HPL.out; omega)) HM.out.s HCW4.out); have HVN := Lib.hid (valid_any ⟨m.ws, m.cs.set j (y + n), countP m.ps ⟨prev, j, n⟩, m.back⟩ B1 (some ⟨g2, 0, none⟩) B4 d1 d2 d4 _ HMN.out.1); rw [List.length_set, decide_eq_true hval] at HVN; refine HVN.out.mono ?_; rintro e w2 ⟨rfl, hb2⟩; have hk2 := HK4.out.below hb2 HK4.out.lt; have r0 := hk2.cell 0; have r1 := hk2.cell 1; have r2 := hk2.cell 2; have r3 := hk2.cell 3; have hz2 := (HZ.out.below HS4.out hs1).below hb2 (Nat.lt_of_lt_of_le hs1 HS4.out.size); have t0 := hz2.cell 0; have t1 := hz2.cell 1; have t2 := hz2.cell 2; have t3 := hz2.cell 3; have u0 := hz2.frozen 0; have u1 := hz2.frozen 1; have u2 := hz2.frozen 2; have u3 := hz2.frozen 3)))
        have hz4 := hz2.set4 (.slice B1 m.ws.length d1) (.slice (some ⟨g2, 0, none⟩) m.cs.length d2) (.slice B4 (countP m.ps ⟨prev, j, n⟩).length d4) (.int .i64 m.back)
        obtain ⟨Wf, hWf⟩ : ∃ Wf, Wf = set4 w2 (w.heap.size + 1) (.slice B1 m.ws.length d1) (.slice (some ⟨g2, 0, none⟩) m.cs.length d2) (.slice B4 (countP m.ps ⟨prev, j, n⟩).length d4) (.int .i64 m.back) := ⟨_, rfl⟩
        rw [← hWf] at hz4
        have hWf' := hWf
        unfold set4 at hWf'
        rw [← hWf']
        have y0 := hz4.cell 0
        have y1 := hz4.cell 1
        have y2 := hz4.cell 2
        have y3 := hz4.cell 3
        refine bodyPost_ret (v := .tuple #[.agg #[.slice B1 m.ws.length d1, .slice (some ⟨g2, 0, none⟩) m.cs.length d2, .slice B4 (countP m.ps ⟨prev, j, n⟩).length d4, .int .i64 m.back], .int .i64 0]) (by simp [results, Try.results16, go_sem, y0, y1, y2, y3]; done) rfl ?_
        rw [show learnM m prev j n = some ⟨m.ws, m.cs.set j (y + n), countP m.ps ⟨prev, j, n⟩, m.back⟩ by unfold learnM; rw [HNX.out, if_pos ⟨HY.out, hval⟩]]
        have e1 := own_set4 (g := w.heap.size + 1) (own_below HO14.out hb2) (fun e => by have := own_block_le HO14.out _ e; omega) (.slice B1 m.ws.length d1) (.slice (some ⟨g2, 0, none⟩) m.cs.length d2) (.slice B4 (countP m.ps ⟨prev, j, n⟩).length d4) (.int .i64 m.back)
        have e2 := own_set4 (g := w.heap.size + 1) (own_below HO24.out hb2) (fun e => by have := own_block_le HO24.out _ e; omega) (.slice B1 m.ws.length d1) (.slice (some ⟨g2, 0, none⟩) m.cs.length d2) (.slice B4 (countP m.ps ⟨prev, j, n⟩).length d4) (.int .i64 m.back)
        have e3 := own_set4 (g := w.heap.size + 1) (own_below HO34.out hb2) (fun e => by have := own_block_le HO34.out _ e; omega) (.slice B1 m.ws.length d1) (.slice (some ⟨g2, 0, none⟩) m.cs.length d2) (.slice B4 (countP m.ps ⟨prev, j, n⟩).length d4) (.int .i64 m.back)
        rw [← hWf] at e1 e2 e3
        obtain ⟨hmor, hcaps⟩ := mor_own (m := ⟨m.ws, m.cs.set j (y + n), countP m.ps ⟨prev, j, n⟩, m.back⟩) e1 (by simpa using e2) e3 HMN.out.1.l1 HMN.out.1.l2 HMN.out.1.l3 HMN.out.1.s HMN.out.1.n
        exact ⟨_, _, _, _, _, _, by simp, hmor, hcaps, ((hB.trans (HB1.out.mono (by simp; omega))).trans ((HS4.out.mono (by omega)).trans (hb2.mono (by have := HS4.out.size; omega)))).trans (by rw [hWf]; exact set4_below _ _ _ _ _ _ (by omega))⟩
      · go_wp2_with (first | (go_at_call 35; go_loud (refine HCT.out.mono ?_; rintro e w3 ⟨v4, rfl, ho4, hb4, ha4⟩; obtain ⟨B4, d4, rfl, k4, m4, _⟩ := own_slr (R := RPr) ho4 (fun _ => rfl) (fun _ => rfl) rfl; have hk3 := HK.out.apps ha4 (own_blk_ne HO3.out HK.out (by decide)); have hk3f := hk3.frozen 2; have hk3c := hk3.cell 2; have hk3d := hk3.cell 0; have hk3e := hk3.cell 1; have hk3g := hk3.cell 3)) | (go_at_call 19; go_loud (have HO14 := Lib.hid (own_set (own_apps HO1.out HO3.out (by decide) ha4) (a := ⟨kb, 2, none⟩) n1 (.slice B4 (countP m.ps ⟨prev, j, n⟩).length d4)); have HO24 := Lib.hid (own_set (own_apps HO2.out HO3.out (by decide) ha4) (a := ⟨kb, 2, none⟩) n2 (.slice B4 (countP m.ps ⟨prev, j, n⟩).length d4)); have HO34 := Lib.hid (own_set ho4 (a := ⟨kb, 2, none⟩) (own_blk_ne ho4 hk3 (by decide)) (.slice B4 (countP m.ps ⟨prev, j, n⟩).length d4)); have HK4 := Lib.hid (hk3.set_ 2 (.slice B4 (countP m.ps ⟨prev, j, n⟩).length d4)); have HS4 := Lib.hid ((HS.out.trans hb4).setCell (show w1.heap.size ≤ (Addr.mk kb 2 none).block from hkb) (.slice B4 (countP m.ps ⟨prev, j, n⟩).length d4)); have HMN := Lib.hid (mor_own (m := ⟨m.ws, m.cs.set j (y + n), countP m.ps ⟨prev, j, n⟩, m.back⟩) HO14.out (by simpa using HO24.out) HO34.out HL1.out (by simpa using HL2.out) (Nat.le_trans HCL4.out (by have := HPL.out; omega)) HM.out.s HCW4.out); have HVN := Lib.hid (valid_any ⟨m.ws, m.cs.set j (y + n), countP m.ps ⟨prev, j, n⟩, m.back⟩ B1 (some ⟨g2, 0, none⟩) B4 d1 d2 d4 _ HMN.out.1); rw [List.length_set, decide_eq_false hval] at HVN; refine HVN.out.mono ?_; rintro e w2 ⟨rfl, hb2⟩; have hk2 := HK4.out.below hb2 HK4.out.lt; have r0 := hk2.cell 0; have r1 := hk2.cell 1; have r2 := hk2.cell 2; have r3 := hk2.cell 3; have hz2 := (HZ.out.below HS4.out hs1).below hb2 (Nat.lt_of_lt_of_le hs1 HS4.out.size); have t0 := hz2.cell 0; have t1 := hz2.cell 1; have t2 := hz2.cell 2; have t3 := hz2.cell 3; have u0 := hz2.frozen 0; have u1 := hz2.frozen 1; have u2 := hz2.frozen 2; have u3 := hz2.frozen 3)))
        have hz4 := hz2.set4 (.slice none 0 0) (.slice none 0 0) (.slice none 0 0) (.int .i64 0)
        obtain ⟨Wf, hWf⟩ : ∃ Wf, Wf = set4 w2 (w.heap.size + 1) (.slice none 0 0) (.slice none 0 0) (.slice none 0 0) (.int .i64 0) := ⟨_, rfl⟩
        rw [← hWf] at hz4
        have hWf' := hWf
        unfold set4 at hWf'
        rw [← hWf']
        have y0 := hz4.cell 0
        have y1 := hz4.cell 1
        have y2 := hz4.cell 2
        have y3 := hz4.cell 3
        refine bodyPost_ret (v := .tuple #[.agg #[.slice none 0 0, .slice none 0 0, .slice none 0 0, .int .i64 0], .int .i64 110]) (by simp [results, Try.results16, go_sem, y0, y1, y2, y3]; done) rfl ?_
        rw [show learnM m prev j n = none by unfold learnM; rw [HNX.out, if_neg (fun h => hval h.2)]]
        exact ⟨rfl, ((hB.trans (HB1.out.mono (by simp; omega))).trans ((HS4.out.mono (by omega)).trans (hb2.mono (by have := HS4.out.size; omega)))).trans (by rw [hWf]; exact set4_below _ _ _ _ _ _ (by omega))⟩
    · have HNX := Lib.hid (show nextM m prev j n = ⟨m.ws, m.cs.set j (y + n), m.ps, m.back⟩ by
        unfold nextM
        rw [if_neg hp, show ((j : Int)).toNat = j from rfl, List.getD_eq_getElem?_getD, HYJ.out]; rfl)
      have HMN := Lib.hid (mor_own (m := ⟨m.ws, m.cs.set j (y + n), m.ps, m.back⟩) HO1.out (by simpa using HO2.out) HO3.out HL1.out (by simpa using HL2.out) HL3.out HM.out.s HM.out.n)
      have HVN := Lib.hid (valid_any ⟨m.ws, m.cs.set j (y + n), m.ps, m.back⟩ B1 (some ⟨g2, 0, none⟩) B3 d1 d2 d3 _ HMN.out.1)
      rw [List.length_set] at HVN
      by_cases hval : MoOK ⟨m.ws, m.cs.set j (y + n), m.ps, m.back⟩
      · rw [decide_eq_true hval] at HVN
        go_wp2_with (go_at_call 19; refine HVN.out.mono ?_; rintro e w2 ⟨rfl, hb2⟩; have hk2 := HK.out.below hb2 HK.out.lt; have r0 := hk2.cell 0; have r1 := hk2.cell 1; have r2 := hk2.cell 2; have r3 := hk2.cell 3; have hz2 := (HZ.out.below HS.out hs1).below hb2 (Nat.lt_of_lt_of_le hs1 HS.out.size); have t0 := hz2.cell 0; have t1 := hz2.cell 1; have t2 := hz2.cell 2; have t3 := hz2.cell 3; have u0 := hz2.frozen 0; have u1 := hz2.frozen 1; have u2 := hz2.frozen 2; have u3 := hz2.frozen 3)
        have hz4 := hz2.set4 (.slice B1 m.ws.length d1) (.slice (some ⟨g2, 0, none⟩) m.cs.length d2) (.slice B3 m.ps.length d3) (.int .i64 m.back)
        obtain ⟨Wf, hWf⟩ : ∃ Wf, Wf = set4 w2 (w.heap.size + 1) (.slice B1 m.ws.length d1) (.slice (some ⟨g2, 0, none⟩) m.cs.length d2) (.slice B3 m.ps.length d3) (.int .i64 m.back) := ⟨_, rfl⟩
        rw [← hWf] at hz4
        have hWf' := hWf
        unfold set4 at hWf'
        rw [← hWf']
        have y0 := hz4.cell 0
        have y1 := hz4.cell 1
        have y2 := hz4.cell 2
        have y3 := hz4.cell 3
        refine bodyPost_ret (v := .tuple #[.agg #[.slice B1 m.ws.length d1, .slice (some ⟨g2, 0, none⟩) m.cs.length d2, .slice B3 m.ps.length d3, .int .i64 m.back], .int .i64 0]) (by simp [results, Try.results16, go_sem, y0, y1, y2, y3]; done) rfl ?_
        rw [show learnM m prev j n = some ⟨m.ws, m.cs.set j (y + n), m.ps, m.back⟩ by unfold learnM; rw [HNX.out, if_pos ⟨HY.out, hval⟩]]
        have e1 := own_set4 (g := w.heap.size + 1) (own_below HO1.out hb2) (fun e => by have := own_block_le HO1.out _ e; omega) (.slice B1 m.ws.length d1) (.slice (some ⟨g2, 0, none⟩) m.cs.length d2) (.slice B3 m.ps.length d3) (.int .i64 m.back)
        have e2 := own_set4 (g := w.heap.size + 1) (own_below HO2.out hb2) (fun e => by have := own_block_le HO2.out _ e; omega) (.slice B1 m.ws.length d1) (.slice (some ⟨g2, 0, none⟩) m.cs.length d2) (.slice B3 m.ps.length d3) (.int .i64 m.back)
        have e3 := own_set4 (g := w.heap.size + 1) (own_below HO3.out hb2) (fun e => by have := own_block_le HO3.out _ e; omega) (.slice B1 m.ws.length d1) (.slice (some ⟨g2, 0, none⟩) m.cs.length d2) (.slice B3 m.ps.length d3) (.int .i64 m.back)
        rw [← hWf] at e1 e2 e3
        obtain ⟨hmor, hcaps⟩ := mor_own (m := ⟨m.ws, m.cs.set j (y + n), m.ps, m.back⟩) e1 (by simpa using e2) e3 HMN.out.1.l1 HMN.out.1.l2 HMN.out.1.l3 HMN.out.1.s HMN.out.1.n
        exact ⟨_, _, _, _, _, _, by simp, hmor, hcaps, ((hB.trans (HB1.out.mono (by simp; omega))).trans ((HS.out.mono (by omega)).trans (hb2.mono (by have := HS.out.size; omega)))).trans (by rw [hWf]; exact set4_below _ _ _ _ _ _ (by omega))⟩
      · rw [decide_eq_false hval] at HVN
        go_wp2_with (go_at_call 19; refine HVN.out.mono ?_; rintro e w2 ⟨rfl, hb2⟩; have hk2 := HK.out.below hb2 HK.out.lt; have r0 := hk2.cell 0; have r1 := hk2.cell 1; have r2 := hk2.cell 2; have r3 := hk2.cell 3; have hz2 := (HZ.out.below HS.out hs1).below hb2 (Nat.lt_of_lt_of_le hs1 HS.out.size); have t0 := hz2.cell 0; have t1 := hz2.cell 1; have t2 := hz2.cell 2; have t3 := hz2.cell 3; have u0 := hz2.frozen 0; have u1 := hz2.frozen 1; have u2 := hz2.frozen 2; have u3 := hz2.frozen 3)
        have hz4 := hz2.set4 (.slice none 0 0) (.slice none 0 0) (.slice none 0 0) (.int .i64 0)
        obtain ⟨Wf, hWf⟩ : ∃ Wf, Wf = set4 w2 (w.heap.size + 1) (.slice none 0 0) (.slice none 0 0) (.slice none 0 0) (.int .i64 0) := ⟨_, rfl⟩
        rw [← hWf] at hz4
        have hWf' := hWf
        unfold set4 at hWf'
        rw [← hWf']
        have y0 := hz4.cell 0
        have y1 := hz4.cell 1
        have y2 := hz4.cell 2
        have y3 := hz4.cell 3
        refine bodyPost_ret (v := .tuple #[.agg #[.slice none 0 0, .slice none 0 0, .slice none 0 0, .int .i64 0], .int .i64 110]) (by simp [results, Try.results16, go_sem, y0, y1, y2, y3]; done) rfl ?_
        rw [show learnM m prev j n = none by unfold learnM; rw [HNX.out, if_neg (fun h => hval h.2)]]
        exact ⟨rfl, ((hB.trans (HB1.out.mono (by simp; omega))).trans ((HS.out.mono (by omega)).trans (hb2.mono (by have := HS.out.size; omega)))).trans (by rw [hWf]; exact set4_below _ _ _ _ _ _ (by omega))⟩
end Go.Proofs.Ytbfpcleogdalfaa
