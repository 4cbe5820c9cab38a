/-
  The walks of layer 11: count adds to a pair of an increasing list, or puts it in.
-/
import Derived.Test.YtbfpcleogdalfaaCostWalkS
import Derived.Test.YtbfpcleogdalfaaCostWalkJ
namespace Go.Proofs.Ytbfpcleogdalfaa
open Go Go.RowKit

/-- cost.count. -/
def countP (ps : List Pr) (g : Pr) : List Pr :=
  match ps[cutP ps g]? with
  | some p => if p.a = g.a ∧ p.b = g.b then ps.set (cutP ps g) ⟨p.a, p.b, p.n + g.n⟩ else insAt ps (cutP ps g) g
  | none => insAt ps (cutP ps g) g
theorem countP_hit {ps : List Pr} {g p : Pr} (h : ps[cutP ps g]? = some p) (h1 : p.a = g.a) (h2 : p.b = g.b) : countP ps g = ps.set (cutP ps g) ⟨p.a, p.b, p.n + g.n⟩ := by
  unfold countP; rw [h]; exact if_pos ⟨h1, h2⟩
theorem countP_miss {ps : List Pr} {g p : Pr} (h : ps[cutP ps g]? = some p) (h1 : ¬ (p.a = g.a ∧ p.b = g.b)) : countP ps g = insAt ps (cutP ps g) g := by
  unfold countP; rw [h]; exact if_neg h1
theorem countP_end {ps : List Pr} {g : Pr} (h : ps[cutP ps g]? = none) : countP ps g = insAt ps (cutP ps g) g := by
  unfold countP; rw [h]
theorem flatMap_setN (v : Int) : ∀ (ps : List Pr) (i : Nat) (p : Pr), ps[i]? = some p → (ps.flatMap encP).set (i * 3 + 2) (.int .i64 v) = (ps.set i ⟨p.a, p.b, v⟩).flatMap encP := by
  intro ps
  induction ps with
  | nil => intro i p h; simp at h
  | cons q ps ih =>
    intro i p h
    cases i with
    | zero => simp at h; subst h; rfl
    | succ i =>
      have h' : ps[i]? = some p := by simpa using h
      rw [List.set_cons_succ, List.flatMap_cons, List.flatMap_cons, ← ih i p h', List.set_append_right _ _ (by simp [encP]; omega)]
      congr 2
      simp [encP]; omega
theorem apps_via {w W W2 : World} {v v' : Value} {o : Obj} (hb : Below w.heap.size w W) (hs : w.heap.size ≤ W.heap.size) (ha : Apps (W.alloc o) W2 v v') : Apps w W2 v v' :=
  ⟨fun k hk hne => (ha.keep k (by simp; omega) hne).trans ((Below.heap_alloc W o k (by omega)).trans (hb.block k hk)), by
    rcases ha.at_ with h | ⟨k, h1, h2⟩
    · exact .inl h
    · exact .inr ⟨k, h1, by simp at h2; omega⟩⟩
theorem insAt_len (xs : List Pr) (i : Nat) (p : Pr) (h : i ≤ xs.length) : (insAt xs i p).length = xs.length + 1 := by simp [insAt, Nat.min_eq_left h]; omega

set_option maxRecDepth 100000 in
set_option maxHeartbeats 4000000 in
theorem count_any (A : Option Addr) (c : Nat) (ps : List Pr) (g : Pr) (base : Nat) (w : World) (hown : w.ownsRow base 50 3 (.slice A ps.length c) ps.length (ps.flatMap encP)) (hnc : ps.length ≤ c) (hcm : c ≤ maxLen) (hinc : incP ps = true)
    (hl : ps.length ≤ 65536) (hbase : base ≤ w.heap.size) (hN : ∀ p ∈ ps, -4294967296 ≤ p.n ∧ p.n ≤ 4294967296) (hg : -4294967296 ≤ g.n ∧ g.n ≤ 4294967296) :
    Calls Try.prog 35 #[.slice A ps.length c, .agg #[.int .i64 g.a, .int .i64 g.b, .int .i64 g.n]] w fun e w' => ∃ v', e = .returned v' ∧ w'.ownsRow base 50 3 v' (countP ps g).length ((countP ps g).flatMap encP) ∧ Below base w w' ∧ Apps w w' (.slice A ps.length c) v' := by
  have hB0 : Below w.heap.size w (w.alloc (.cells #[.int .i64 g.a, .int .i64 g.b, .int .i64 g.n] 68)) := (Below.refl _ _).alloc (Nat.le_refl _) _
  have hcm' := hcm
  unfold maxLen at hcm'
  have HI := Lib.hid hinc
  have HO : Hid (∀ W, Below w.heap.size w W → W.ownsRow base 50 3 (.slice A ps.length c) ps.length (ps.flatMap encP)) := fun W hW => own_below hown hW
  have HS0 : Hid (SlR 3 RPr w A ps) := by
    obtain ⟨A', c', hv, _, _, hs⟩ := own_slr (R := RPr) hown (fun _ => rfl) (fun _ => rfl) rfl
    injection hv with h1 _ _
    rw [h1]; exact hs
  have HS := Lib.hid (HS0.out.below keeps_pr hB0)
  have hin : cutP ps g ≤ ps.length := (cut_spec ps g hinc).hhi
  have HFd := Lib.hid (bfind_any A ps c g _ HS.out hl hinc)
  obtain ⟨i, hi⟩ : ∃ i, i = cutP ps g := ⟨_, rfl⟩
  rw [← hi] at hin HFd
  have hci := hi
  clear hi hinc hB0
  by_cases hlt : i < ps.length
  · obtain ⟨gb, off, p, hA, hbb, hpp, hc0, hc1, hc2⟩ := HS0.out.pr hlt
    have HB : Hid (∃ cur : List Value, off = 0 ∧ base ≤ gb ∧ Blk w gb 50 cur.toArray ∧ cur.length = c * 3 ∧ cur.take (ps.length * 3) = ps.flatMap encP) := by
      obtain ⟨g2, c', cur, hvs, hgb, hblk, _, _, hcl, htk⟩ := blk_of_own hown (by omega)
      injection hvs with h1 _ h3
      rw [hA] at h1
      injection h1 with h1
      injection h1 with h1 h2
      subst h1; subst h2; subst h3
      exact ⟨cur, rfl, hgb, hblk, hcl, htk⟩
    subst hA
    have hpn := hN p (List.mem_of_getElem? hpp)
    have hwn : IntKind.i64.wrap (p.n + g.n) = p.n + g.n := by rw [IntKind.wrap_i64]; omega
    have HP := Lib.hid hpp
    have hgs : gb < w.heap.size := by
      obtain ⟨cur, _, _, hblk, _⟩ := HB.out
      exact hblk.lt
    have hidx : (i : Int) < (ps.length : Int) := by omega
    clear hpp hown hbb
    have HF : Hid (∀ o, w.frozen? ⟨gb, o, none⟩ = false) := by
      obtain ⟨cur, _, _, hblk, _⟩ := HB.out
      exact fun o => hblk.frozen o
    have hcase : ((p.a == g.a) = true ∧ (p.b == g.b) = true) ∨ ((p.a == g.a) = true ∧ (p.b == g.b) = false) ∨ ((p.a == g.a) = false) := by
      cases p.a == g.a <;> cases p.b == g.b <;> simp
    rcases hcase with ⟨e1, e2⟩ | ⟨e1, e2⟩ | e1
    · have HR := Lib.hid (countP_hit (by rw [← hci]; exact HP.out) (by simpa using e1) (by simpa using e2))
      rw [← hci] at HR
      replace hci := Lib.hid hci
      go_enter Try.func35, Try.ntmps35
      go_wp2_with (go_at_call 29; refine HFd.out.mono ?_; rintro e w1 ⟨rfl, hb1⟩; have hm0 := box_cell (bx hb1) 0; have hm1 := box_cell (bx hb1) 1; have hm2 := box_cell (bx hb1) 2; have hsz1 := box_size (bx hb1); have hsz2 := hsz1)
      have k0 := ((unbox (bx hb1)).cell (p := ⟨gb, _, none⟩) hgs).trans hc0
      have k1 := ((unbox (bx hb1)).cell (p := ⟨gb, _, none⟩) hgs).trans hc1
      have k2 := ((unbox (bx hb1)).cell (p := ⟨gb, _, none⟩) hgs).trans hc2
      have hgs1 : gb < w1.heap.size := Nat.lt_trans hgs hsz1
      refine ord_below [(0, false), (1, false), (2, false), (3, false), (4, false), (5, false), (6, false), (7, false), (8, false), (9, false), (10, false), (11, false), (12, false), (13, false), (14, false), (15, false), (16, false), (17, false), (18, false), (19, false), (20, false), (21, false), (22, false), (23, false), (24, false), (25, false)] (by kernel_rfl) (by kernel_rfl) (by kernel_rfl) (fun _ _ _ _ _ h => h) ?_
      intro Wa hSa
      repeat (first
        | (refine ord_skip rfl rfl ?_; simp only [Act.put, List.setIfInBounds_toArray, List.set_cons_zero, List.set_cons_succ])
        | (refine ord_cskip rfl rfl (by assumption) ?_; simp only [Act.put, List.setIfInBounds_toArray, List.set_cons_zero, List.set_cons_succ])
        | (refine ord_take (v := ?_) rfl rfl ?_ ?_
           rotate_left 1
           focus (intro W hW; obtain ⟨hcW, hfW⟩ := bcell hW; (go_simp <;> with_reducible rfl))
           simp only [Act.put, List.setIfInBounds_toArray, List.set_cons_zero, List.set_cons_succ])
        | (refine ord_call rfl rfl (fun K hK => ?_)
           go_simp
           first
             | (fail)))
      refine ord_nil ?_
      have hbwa : Below w.heap.size w Wa := (unbox (bx hb1)).trans (hSa.mono (Nat.le_of_lt hsz1))
      have hlta : w.heap.size < Wa.heap.size := Nat.lt_of_lt_of_le hsz1 hSa.size
      have hn0 := (hSa.cell (p := ⟨w.heap.size, 0, none⟩) hsz1).trans hm0
      have hn1 := (hSa.cell (p := ⟨w.heap.size, 1, none⟩) hsz1).trans hm1
      have hn2 := (hSa.cell (p := ⟨w.heap.size, 2, none⟩) hsz1).trans hm2
      have j0 := (hbwa.cell (p := ⟨gb, _, none⟩) hgs).trans hc0
      have j1 := (hbwa.cell (p := ⟨gb, _, none⟩) hgs).trans hc1
      have j2 := (hbwa.cell (p := ⟨gb, _, none⟩) hgs).trans hc2
      have hgsa : gb < Wa.heap.size := Nat.lt_trans hgs hlta
      have hfz : Wa.frozen? ⟨gb, off + i * 3 + 2, none⟩ = false := (hbwa.frozen (p := ⟨gb, _, none⟩) hgs).trans (HF.out _)
      clear hb1 hSa hm0 hm1 hm2
      go_wp2_with fail
      refine ordT_below [11] [(0, false), (1, false), (2, false), (3, false), (4, false), (5, false), (6, false), (7, false), (8, false), (9, true), (10, true), (11, true)] (by kernel_rfl) (by kernel_rfl) (by kernel_rfl) (fun _ _ _ _ _ h => h) ?_
      intro W0 hS0
      repeat (first
        | (refine ordT_skip rfl rfl (by assumption) ?_; simp only [Act.put, List.setIfInBounds_toArray, List.set_cons_zero, List.set_cons_succ])
        | (refine ordT_cskip rfl rfl (by assumption) ?_; simp only [Act.put, List.setIfInBounds_toArray, List.set_cons_zero, List.set_cons_succ])
        | (refine ordT_take (v := ?_) rfl rfl (by assumption) ?_ ?_
           rotate_left 1
           focus (intro W hW; obtain ⟨hcW, hfW⟩ := bcell hW; (go_simp <;> with_reducible rfl))
           simp only [Act.put, List.setIfInBounds_toArray, List.set_cons_zero, List.set_cons_succ])
        | (refine ordT_call rfl rfl (fun K hK => ?_)
           obtain ⟨hcS, hfS⟩ := bcell hS0
           go_simp
           first
             | (refine hK.out _ _ (fun _ => hS0) ?_)
             | (refine hK.out _ _ (fun h => by cases h) ?_)))
      refine ordT_nil ?_
      go_wp2_with fail
      go_ret
      obtain ⟨cur, hoff, hgb, hblk, hcl, htk⟩ := HB.out
      subst hoff
      have hW : Below w.heap.size w W0 := hbwa.trans (hS0.mono (Nat.le_of_lt hlta))
      have hb0 : Blk W0 gb 50 cur.toArray := hblk.below hW hgs
      have h3 : Blk (W0.setCell ⟨gb, 0 + i * 3 + 2, none⟩ (.int .i64 (p.n + g.n))) gb 50 (cur.set (i * 3 + 2) (.int .i64 (p.n + g.n))).toArray := by
        have := hb0.set_ (i * 3 + 2) (.int .i64 (p.n + g.n))
        simpa using this
      have ho := own_of_blk (base := base) (s := 3) h3 hgb hnc hcm (by simp [hcl])
      rw [List.take_set, htk, flatMap_setN _ _ _ _ HP.out] at ho
      refine ⟨.slice (some ⟨gb, 0, none⟩) ps.length c, rfl, by rw [HR.out, List.length_set]; exact ho, (hW.mono hbase).setCell hgb _, fun k hk hne => (Below.heap_setCell _ _ _ _ (fun e => hne (by rw [e]; rfl))).trans (hW.block k hk), .inl rfl⟩
    all_goals
      have HR := Lib.hid (countP_miss (by rw [← hci]; exact HP.out) (fun h => by first | simp [h.2] at e2 | simp [h.1] at e1))
      rw [← hci] at HR
      have hil := insAt_len ps i g (Nat.le_of_lt hlt)
      replace hci := Lib.hid hci
      go_enter Try.func35, Try.ntmps35
      go_wp2_with (go_at_call 29; refine HFd.out.mono ?_; rintro e w1 ⟨rfl, hb1⟩; have hm0 := box_cell (bx hb1) 0; have hm1 := box_cell (bx hb1) 1; have hm2 := box_cell (bx hb1) 2; have hsz1 := box_size (bx hb1); have hsz2 := hsz1)
      have k0 := ((unbox (bx hb1)).cell (p := ⟨gb, _, none⟩) hgs).trans hc0
      have k1 := ((unbox (bx hb1)).cell (p := ⟨gb, _, none⟩) hgs).trans hc1
      have k2 := ((unbox (bx hb1)).cell (p := ⟨gb, _, none⟩) hgs).trans hc2
      have hgs1 : gb < w1.heap.size := Nat.lt_trans hgs hsz1
      refine ord_below [(0, false), (1, false), (2, false), (3, false), (4, false), (5, false), (6, false), (7, false), (8, false), (9, false), (10, false), (11, false), (12, false), (13, false), (14, false), (15, false), (16, false), (17, false), (18, false), (19, false), (20, false), (21, false), (22, false), (23, false), (24, false), (25, false)] (by kernel_rfl) (by kernel_rfl) (by kernel_rfl) (fun _ _ _ _ _ h => h) ?_
      intro Wa hSa
      repeat (first
        | (refine ord_skip rfl rfl ?_; simp only [Act.put, List.setIfInBounds_toArray, List.set_cons_zero, List.set_cons_succ])
        | (refine ord_cskip rfl rfl (by assumption) ?_; simp only [Act.put, List.setIfInBounds_toArray, List.set_cons_zero, List.set_cons_succ])
        | (refine ord_take (v := ?_) rfl rfl ?_ ?_
           rotate_left 1
           focus (intro W hW; obtain ⟨hcW, hfW⟩ := bcell hW; (go_simp <;> with_reducible rfl))
           simp only [Act.put, List.setIfInBounds_toArray, List.set_cons_zero, List.set_cons_succ])
        | (refine ord_call rfl rfl (fun K hK => ?_)
           go_simp
           first
             | (fail)))
      refine ord_nil ?_
      have hbwa : Below w.heap.size w Wa := (unbox (bx hb1)).trans (hSa.mono (Nat.le_of_lt hsz1))
      have hlta : w.heap.size < Wa.heap.size := Nat.lt_of_lt_of_le hsz1 hSa.size
      have hn0 := (hSa.cell (p := ⟨w.heap.size, 0, none⟩) hsz1).trans hm0
      have hn1 := (hSa.cell (p := ⟨w.heap.size, 1, none⟩) hsz1).trans hm1
      have hn2 := (hSa.cell (p := ⟨w.heap.size, 2, none⟩) hsz1).trans hm2
      clear hb1 hSa hm0 hm1 hm2
      go_wp2_with (go_at_call 44; refine (insP_any _ c ps g i base Wa.heap.size _ (HO.out _ (hbwa.alloc (Nat.le_of_lt hlta) _)) hnc hcm (by omega) (Blk.new_ rfl) (own_lt (HO.out _ hbwa) (Nat.le_refl _)) (by simp; omega) hl).mono ?_; rintro e w2 ⟨v2, rfl, ho2, hb2, ha2⟩)
      go_ret
      exact ⟨v2, rfl, by rw [HR.out, hil]; exact ho2, (hbwa.mono hbase).trans (((Below.refl _ _).alloc (Nat.le_trans hbase (Nat.le_of_lt hlta)) _).trans hb2), apps_via hbwa (Nat.le_of_lt hlta) ha2⟩
  · obtain rfl : i = ps.length := by omega
    have HR := Lib.hid (countP_end (ps := ps) (g := g) (by rw [← hci]; simp))
    rw [← hci] at HR
    have hil := insAt_len ps ps.length g (Nat.le_refl _)
    replace hci := Lib.hid hci
    go_enter Try.func35, Try.ntmps35
    go_wp2_with (go_at_call 29; refine HFd.out.mono ?_; rintro e w1 ⟨rfl, hb1⟩; have hm0 := box_cell (bx hb1) 0; have hm1 := box_cell (bx hb1) 1; have hm2 := box_cell (bx hb1) 2; have hsz1 := box_size (bx hb1); have hsz2 := hsz1)
    refine ord_below [(0, false), (1, false), (2, false), (3, false), (4, false), (5, false), (6, false), (7, false), (8, false), (9, false), (10, false), (11, false), (12, false), (13, false), (14, false), (15, false), (16, false), (17, false), (18, false), (19, false), (20, false), (21, false), (22, false), (23, false), (24, false), (25, false)] (by kernel_rfl) (by kernel_rfl) (by kernel_rfl) (fun _ _ _ _ _ h => h) ?_
    intro Wa hSa
    repeat (first
      | (refine ord_skip rfl rfl ?_; simp only [Act.put, List.setIfInBounds_toArray, List.set_cons_zero, List.set_cons_succ])
      | (refine ord_cskip rfl rfl (by assumption) ?_; simp only [Act.put, List.setIfInBounds_toArray, List.set_cons_zero, List.set_cons_succ])
      | (refine ord_take (v := ?_) rfl rfl ?_ ?_
         rotate_left 1
         focus (intro W hW; obtain ⟨hcW, hfW⟩ := bcell hW; (go_simp <;> with_reducible rfl))
         simp only [Act.put, List.setIfInBounds_toArray, List.set_cons_zero, List.set_cons_succ])
      | (refine ord_call rfl rfl (fun K hK => ?_)
         go_simp
         first
           | (fail)))
    refine ord_nil ?_
    have hbwa : Below w.heap.size w Wa := (unbox (bx hb1)).trans (hSa.mono (Nat.le_of_lt hsz1))
    have hlta : w.heap.size < Wa.heap.size := Nat.lt_of_lt_of_le hsz1 hSa.size
    have hn0 := (hSa.cell (p := ⟨w.heap.size, 0, none⟩) hsz1).trans hm0
    have hn1 := (hSa.cell (p := ⟨w.heap.size, 1, none⟩) hsz1).trans hm1
    have hn2 := (hSa.cell (p := ⟨w.heap.size, 2, none⟩) hsz1).trans hm2
    clear hb1 hSa hm0 hm1 hm2
    go_wp2_with (go_at_call 44; refine (insP_any _ c ps g ps.length base Wa.heap.size _ (HO.out _ (hbwa.alloc (Nat.le_of_lt hlta) _)) hnc hcm (by omega) (Blk.new_ rfl) (own_lt (HO.out _ hbwa) (Nat.le_refl _)) (by simp; omega) hl).mono ?_; rintro e w2 ⟨v2, rfl, ho2, hb2, ha2⟩)
    go_ret
    exact ⟨v2, rfl, by rw [HR.out, hil]; exact ho2, (hbwa.mono hbase).trans (((Below.refl _ _).alloc (Nat.le_trans hbase (Nat.le_of_lt hlta)) _).trans hb2), apps_via hbwa (Nat.le_of_lt hlta) ha2⟩
end Go.Proofs.Ytbfpcleogdalfaa
