/-
  The walks of layers 15 and 16: the graphs that the laws draw.
-/
import Derived.Test.YtbikjmafddndpaaGrWalkB
import Derived.Test.YtbikjmafddndpaaBase
import Derived.Deep.DeepCutAuto
namespace Go.Proofs.Ytbikjmafddndpaa
open Go Go.RowKit

theorem info_parts {t : TypeId} {z : Value} {s b : Nat} (h : (Try.prog.info? t).map (fun i => (i.zero, i.size, i.bytes)) = some (some z, s, b)) : ∃ i, Try.prog.info? t = some i ∧ i.zero = some z ∧ i.size = s ∧ i.bytes = b := by
  cases hi : Try.prog.info? t with
  | none => rw [hi] at h; cases h
  | some i =>
    rw [hi] at h
    simp at h
    exact ⟨i, rfl, h.1, h.2.1, h.2.2⟩
theorem link_info : (Try.prog.info? 54).map (fun i => (i.zero, i.size, i.bytes)) = some (some (.agg #[.int .i64 0, .int .i64 0, .int .i64 0, .int .i64 0]), 4, 32) := by kernel_rfl
def encLk (x : Lk) : List Value := [.int .i64 x.fr, .int .i64 x.to, .int .i64 x.lb, .int .i64 x.cost]
theorem slr_blk {α : Type} {s : Nat} {R : World → α → List Value → Prop} {enc : α → List Value} {w : World} {g : Nat} {t : TypeId} {xs : List α} (h : Blk w g t (xs.flatMap enc).toArray) (hl : ∀ x, (enc x).length = s) (hR : ∀ x, R w x (enc x)) :
    SlR s R w (some ⟨g, 0, none⟩) xs := fun _ => by
  refine ⟨g, 0, rfl, h.lt, fun k x hx => ⟨enc x, hR x, hl x, fun j v hj => ?_⟩⟩
  have hget : ∀ (l : List α) (k : Nat) (x : α), l[k]? = some x → ∀ j u, (enc x)[j]? = some u → (l.flatMap enc)[k * s + j]? = some u := by
    intro l
    induction l with
    | nil => intro k x h; simp at h
    | cons y l ih =>
      intro k x hx j u hu
      rw [List.flatMap_cons]
      cases k with
      | zero =>
        simp at hx
        subst hx
        rw [List.getElem?_append_left (by have := (List.getElem?_eq_some_iff.1 hu).1; omega)]
        simpa using hu
      | succ k =>
        rw [List.getElem?_cons_succ] at hx
        rw [List.getElem?_append_right (by rw [hl, Nat.add_mul]; omega), hl, show (k + 1) * s + j - s = k * s + j by rw [Nat.add_mul]; omega]
        exact ih k x hx j u hu
  have := h.cell (k * s + j)
  rw [show 0 + k * s + j = k * s + j by omega, this]
  simpa using hget xs k x hx j v hj
/-- Every old block but the own row's is as it was. -/
structure ButOwn (v : Value) (w w' : World) : Prop where
  size : w.heap.size ≤ w'.heap.size
  block : ∀ b, b < w.heap.size → v.ownBlock ≠ some b → w'.heap[b]? = w.heap[b]?
theorem ButOwn.of_below {v : Value} {w w' : World} (h : Below w.heap.size w w') : ButOwn v w w' := ⟨h.size, fun b hb _ => h.block b hb⟩
theorem ButOwn.cell {v : Value} {w w' : World} (h : ButOwn v w w') : ∀ b o, b < w.heap.size → v.ownBlock ≠ some b → w'.cell? ⟨b, o, none⟩ = w.cell? ⟨b, o, none⟩ := fun b _ hb hv => World.cell?_of_block (h.block b hb hv)
theorem ButOwn.apps {v v' : Value} {w w1 w2 : World} (h : ButOwn v w w1) (hs : w1.heap.size ≤ w2.heap.size) (ha : Apps w1 w2 v v') : ButOwn v w w2 :=
  ⟨Nat.le_trans h.size hs, fun b hb hv => (ha.keep b (Nat.lt_of_lt_of_le hb h.size) hv).trans (h.block b hb hv)⟩
set_option maxRecDepth 100000 in
set_option maxHeartbeats 8000000 in
theorem made_any (A : Option Addr) (l : List T3) (c : Nat) (x : Int) (w : World) (hx : SlR 3 RT3 w A l) (hl0 : l.length ≤ maxLen) (hxb : 0 ≤ x ∧ x ≤ 255) (hok : ∀ p ∈ l, T3OK p) :
    Calls Try.prog 15 #[.agg #[.int .u8 x, .slice A l.length c]] w fun e w' => ∃ A' c', e = .returned (.agg #[.int .i64 (madeG x l).n, .slice A' (madeG x l).ls.length c']) ∧ (madeG x l).ls.length ≤ c' ∧ c' ≤ maxLen ∧
      SlR 4 RLk w' A' (madeG x l).ls ∧ Below w.heap.size w w' := by
  have hl := hl0
  unfold maxLen at hl
  obtain ⟨i0, hi, hz0, hz1, hz2⟩ := info_parts link_info
  have htm : x.tmod 7 = x % 7 := Int.tmod_eq_emod_of_nonneg hxb.1
  have hwx : IntKind.i64.wrap x = x := IntWalk.i64_in _ (by omega)
  have hr7 : 0 ≤ x % 7 ∧ x % 7 ≤ 6 := by omega
  obtain ⟨r, hr⟩ : ∃ r, x % 7 = r := ⟨_, rfl⟩
  have hmade : madeG x l = ⟨1 + r, if 1 < 1 + r then mkTo (1 + r) l (min l.length 14) else []⟩ := by unfold madeG; rw [hr]
  rw [hr] at htm hr7
  rw [hmade]
  clear hmade hr
  have hwr : IntKind.i64.wrap r = r := IntWalk.i64_in _ (by omega)
  obtain ⟨n, hn⟩ : ∃ n, 1 + r = n := ⟨_, rfl⟩
  have hwn : IntKind.i64.wrap (1 + r) = n := by rw [hn]; exact IntWalk.i64_in _ (by omega)
  rw [hn]
  have hn1 : 1 ≤ n ∧ n ≤ 7 := by omega
  clear hn hr7
  obtain ⟨fin, hfin⟩ : ∃ fin, (if 1 < n then mkTo n l (min l.length 14) else []) = fin := ⟨_, rfl⟩
  have HFIN := Lib.hid hfin
  rw [hfin]
  clear hfin
  obtain ⟨w3, hw3⟩ : ∃ w3, ((w.alloc (.cells #[.int .u8 x, .slice A l.length c] 24)).alloc (.cells #[.int .i64 0, .slice none 0 0] 30)).alloc (.cells #[.int .i64 n, .slice none 0 0] 30) = w3 := ⟨_, rfl⟩
  have hb3 : Below w.heap.size w w3 := by rw [← hw3]; exact nw _ (nw _ (nw _ (Below.refl _ _)))
  have hB0 : Blk w3 w.heap.size 24 #[.int .u8 x, .slice A l.length c] := by rw [← hw3]; exact ((Blk.new _ _ _).alloc _).alloc _
  have hB1 : Blk w3 (w.heap.size + 1) 30 #[.int .i64 0, .slice none 0 0] := by rw [← hw3]; exact (Blk.new_ (by simp)).alloc _
  have hB2 : Blk w3 (w.heap.size + 1 + 1) 30 #[.int .i64 n, .slice none 0 0] := by rw [← hw3]; exact Blk.new_ (by simp)
  have hsz : w3.heap.size = w.heap.size + 1 + 1 + 1 := by rw [← hw3]; simp
  have HW3 := Lib.hid hw3
  clear hw3
  go_enter Try.func15, Try.ntmps15
  go_wp2_with fail
  all_goals (rw [HW3.out])
  obtain ⟨b1, hb1e⟩ : ∃ b, w.heap.size + 1 = b := ⟨_, rfl⟩
  rw [hb1e] at hB1 hB2 hsz ⊢
  obtain ⟨b2, hb2e⟩ : ∃ b, b1 + 1 = b := ⟨_, rfl⟩
  rw [hb2e] at hB2 hsz ⊢
  have hlt1 : w.heap.size < b1 := by omega
  have hlt2 : b1 < b2 := by omega
  have hn02 : w.heap.size ≠ b2 := by omega
  have hn12 : b1 ≠ b2 := by omega
  have hs3 : w3.heap.size = b2 + 1 := hsz
  have hle3 : b2 + 1 ≤ w3.heap.size := by omega
  clear hb1e hb2e hsz hs3
  go_loopw [4] (fun i wr => ∃ (k : Nat) (v : Value) (ks : List Lk), k ≤ l.length ∧ k ≤ 14 ∧ Hid (1 < n ∨ k = 0) ∧ Hid (ks = if 1 < n then mkTo n l k else []) ∧ ks.length ≤ k ∧ i = .int .i64 k ∧
      wr.ownsRow (b2 + 1) 54 4 v ks.length (ks.flatMap encLk) ∧ Blk wr b2 30 #[.int .i64 n, v] ∧ Below b2 w3 wr) (fun i _ => 14 - (intOf i).toNat)
  case atStart => exact ⟨0, .slice none 0 0, [], by omega, by omega, .inr rfl, (by show _ = _; split <;> rfl), by simp, rfl, own_nil _ _ _ _, hB2, Below.refl _ _⟩
  case round =>
    obtain ⟨k, v, ks, hk, hk14, HN, HK, hkl, rfl, hown, hB, hbr⟩ := hrel
    have hR := hB0.below hbr (by omega)
    have q0 := hR.cell 0
    have q1 := hR.cell 1
    have s0 := hB.cell 0
    have s1' := hB.cell 1
    have bl := hB.lt
    have rl := hR.lt
    simp at q0 q1 s0 s1'
    have hbw : Below w.heap.size w wr := hb3.trans (hbr.mono (by omega))
    by_cases hlt : k < l.length ∧ k < 14 ∧ 1 < n
    · obtain ⟨hltl, hlt14, hn2⟩ := hlt
      obtain ⟨b, off, p, rfl, hbb, hpp, d0, d1, d2⟩ := (hx.below keeps_t3 hbw).t3 hltl
      have hbb2 : b < b2 := by obtain ⟨b', o', e, hb', _⟩ := hx (by rintro rfl; simp at hltl); simp only [Option.some.injEq, Addr.mk.injEq, and_true] at e; omega
      obtain ⟨⟨p1, p2⟩, ⟨p3, p4⟩, p5, p6⟩ := hok p (List.mem_of_getElem? hpp)
      have HP := Lib.hid (mk_succ (n := n) hpp)
      have g1 : n - 1 ≠ 0 := by omega
      have g2 := Int.emod_nonneg p.a (show n - 1 ≠ 0 by omega)
      have g3 := Int.emod_lt_of_pos p.a (show 0 < n - 1 by omega)
      have t1 : p.a.tmod (n - 1) = p.a % (n - 1) := Int.tmod_eq_emod_of_nonneg p1
      obtain ⟨fr, hfr⟩ : ∃ f, p.a % (n - 1) = f := ⟨_, rfl⟩
      have HFR := Lib.hid hfr
      rw [hfr] at g2 g3 t1
      have g4 : n - 1 - fr ≠ 0 := by omega
      have g5 := Int.emod_nonneg p.b (show n - 1 - fr ≠ 0 by omega)
      have g6 := Int.emod_lt_of_pos p.b (show 0 < n - 1 - fr by omega)
      have t2 : p.b.tmod (n - 1 - fr) = p.b % (n - 1 - fr) := Int.tmod_eq_emod_of_nonneg p3
      obtain ⟨md, hmd⟩ : ∃ f, p.b % (n - 1 - fr) = f := ⟨_, rfl⟩
      have HMD := Lib.hid hmd
      rw [hmd] at g5 g6 t2
      have t3 : p.c.tmod 5 = p.c % 5 := Int.tmod_eq_emod_of_nonneg p5
      have g7 : 0 ≤ p.c % 5 ∧ p.c % 5 ≤ 4 := by omega
      obtain ⟨co, hco⟩ : ∃ f, p.c % 5 = f := ⟨_, rfl⟩
      have HCO := Lib.hid hco
      rw [hco] at g7 t3
      have e1 : IntKind.i64.wrap p.a = p.a := IntWalk.i64_in _ (by omega)
      have e2 : IntKind.i64.wrap p.b = p.b := IntWalk.i64_in _ (by omega)
      have e3 : IntKind.i64.wrap p.c = p.c := IntWalk.i64_in _ (by omega)
      have e4 : IntKind.i64.wrap (n - 1) = n - 1 := IntWalk.i64_in _ (by omega)
      have e5 : IntKind.i64.wrap fr = fr := IntWalk.i64_in _ (by omega)
      have e6 : IntKind.i64.wrap (fr + 1) = fr + 1 := IntWalk.i64_in _ (by omega)
      have e7 : IntKind.i64.wrap (n - 1 - fr) = n - 1 - fr := IntWalk.i64_in _ (by omega)
      have e8 : IntKind.i64.wrap md = md := IntWalk.i64_in _ (by omega)
      have e10 : IntKind.i64.wrap co = co := IntWalk.i64_in _ (by omega)
      obtain ⟨tt, hto⟩ : ∃ t, fr + 1 + md = t := ⟨_, rfl⟩
      have HTO := Lib.hid hto
      have e9 : IntKind.i64.wrap (fr + 1 + md) = tt := by rw [hto]; exact IntWalk.i64_in _ (by omega)
      have hkl' : (k : Int) < (l.length : Int) := by omega
      have hk14' : (k : Int) < 14 := by omega
      have hn1' : ¬ n - 1 = 0 := g1
      have hn4' : ¬ n - 1 - fr = 0 := g4
      have hvn0 : v.ownBlock ≠ some w.heap.size := fun e => by have := own_block_le hown _ e; omega
      have hvnb : v.ownBlock ≠ some b := fun e => by have := own_block_le hown _ e; omega
      have hvne : v.ownBlock ≠ some b2 := fun e => by have := own_block_le hown _ e; omega
      have HO := Lib.hid hown
      have HB := Lib.hid hB
      have HBr := Lib.hid hbr
      have hbs := hbr.size
      clear hpp hown hB hbr hR hfr hmd hco hto g1 g2 g3 g4 g5 g6 g7 p1 p2 p3 p4 p5 p6 hbw
      go_wp2_with fail
      go_quiet (fail)
      obtain ⟨W0, hW0⟩ : ∃ W0, wr.drewN nq = W0 := ⟨_, rfl⟩
      have hn0 : Below wr.heap.size wr W0 := by rw [← hW0]; exact below_drewN (Below.refl _ _) _
      rw [hW0]
      clear hW0
      have HB := Lib.hid (HB.out.below hn0 bl)
      have HO := Lib.hid (own_below HO.out hn0)
      have HBr := Lib.hid (HBr.out.trans (hn0.mono (Nat.le_of_lt bl)))
      have s0 := (hn0.cell (p := ⟨b2, _, none⟩) bl).trans s0
      have s1' := (hn0.cell (p := ⟨b2, _, none⟩) bl).trans s1'
      have q0 := (hn0.cell (p := ⟨w.heap.size, _, none⟩) rl).trans q0
      have q1 := (hn0.cell (p := ⟨w.heap.size, _, none⟩) rl).trans q1
      have d0 := (hn0.cell (p := ⟨b, _, none⟩) hbb).trans d0
      have d1 := (hn0.cell (p := ⟨b, _, none⟩) hbb).trans d1
      have d2 := (hn0.cell (p := ⟨b, _, none⟩) hbb).trans d2
      have hbb := Nat.lt_of_lt_of_le hbb hn0.size
      have bl := Nat.lt_of_lt_of_le bl hn0.size
      have rl := Nat.lt_of_lt_of_le rl hn0.size
      clear hn0
      go_wp2_with fail
      refine ordV_start (ButOwn v W0) (fun _ => True) [32] [(0, some false), (1, some false), (2, some false), (3, some false), (4, some false), (5, some false), (6, some false), (7, some false), (8, some false), (9, some false), (10, some false), (11, some false), (12, some false), (13, some false), (14, some false), (15, some false), (16, some false), (17, some false), (18, some false), (19, some false), (20, some false), (21, some false), (22, some false), (23, some false), (24, some false), (25, some false), (26, some false), (27, some false), (28, some false), (29, some true), (30, some true), (31, some false), (32, some true)] (by kernel_rfl) (by kernel_rfl) (by kernel_rfl) (fun _ _ _ _ _ h => h) trivial ?_
      have HD : Below W0.heap.size W0 W0.drew := (Below.refl _ _).drew
      obtain ⟨Wd, hWd⟩ : ∃ Wd, W0.drew = Wd := ⟨_, rfl⟩
      rw [hWd] at HD ⊢
      clear hWd
      have HS0 := ButOwn.of_below (v := v) HD
      iterate 29 (refine ordV_takeS (v := ?_) rfl rfl HS0 ?_ ?_; rotate_left 1; (focus (intro W hW; have hcW := hW.cell; (go_simp <;> (try with_reducible rfl)))); simp only [Act.put, List.setIfInBounds_toArray, List.set_cons_zero, List.set_cons_succ])
      refine ordV_call rfl rfl (fun K hK => ?_)
      go_simp
      have HD2 := HD.alloc HD.size (.cells #[.int .i64 fr, .int .i64 tt, .int .i64 (k : Int), .int .i64 co] 54)
      have HS1 := ButOwn.of_below (v := v) HD2
      refine hK.out _ _ trivial (fun _ _ => HS1) ?_
      clear hK K
      try simp only [Act.put, List.setIfInBounds_toArray, List.set_cons_zero, List.set_cons_succ]
      refine ordV_call rfl rfl (fun K hK => ?_)
      refine wp_appS (enc := encLk) (R := RLk) _ _ 28 rfl (b2 + 1) 54 i0 _ 4 32 Try.underlying28 hi hz0 hz1 hz2 rfl (by decide) v _ _ rfl ((own_below HO.out HD).alloc _) (some ⟨Wd.heap.size, 0, none⟩) 1 [Lk.mk fr tt (k : Int) co] rfl (slr_blk (enc := encLk) (Blk.new_ rfl) (fun _ => rfl) (fun _ => rfl)) (fun _ _ _ h => h) (fun _ => rfl) (fun u hu => by simp [encLk] at hu; rcases hu with rfl | rfl | rfl | rfl <;> rfl) (by simp; omega) (by decide) (by have := HD2.size; omega) ?_
      intro v4 w4 hown4 hb4 ha4
      have HS2 := HS1.apps hb4.size ha4
      refine hK.out _ _ trivial (fun _ _ => HS2) ?_
      clear hK K
      have hown5 : w4.ownsRow (b2 + 1) 54 4 v4 (ks ++ [Lk.mk fr tt (k : Int) co]).length ((ks ++ [Lk.mk fr tt (k : Int) co]).flatMap encLk) := by rw [List.length_append, List.flatMap_append]; exact hown4
      obtain ⟨A9, c9, rfl, hc9, hcm9, _⟩ := own_slr (R := RLk) hown5 (fun _ => rfl) (fun _ => rfl) rfl
      have hB4 := ((HB.out.below HD HB.out.lt).alloc (.cells #[.int .i64 fr, .int .i64 tt, .int .i64 (k : Int), .int .i64 co] 54)).apps ha4 hvne
      have s2 := hB4.cell 1
      have sf2 := hB4.frozen 1
      have sl := hB4.lt
      simp at s2
      try simp only [Act.put, List.setIfInBounds_toArray, List.set_cons_zero, List.set_cons_succ]
      iterate 1 (refine ordV_takeS (v := ?_) rfl rfl HS2 ?_ ?_; rotate_left 1; (focus (intro W hW; have hcW := hW.cell; (go_simp <;> (try with_reducible rfl)))); simp only [Act.put, List.setIfInBounds_toArray, List.set_cons_zero, List.set_cons_succ])
      refine ordV_call rfl rfl (fun K hK => ?_)
      go_simp
      refine hK.out _ _ trivial (fun _ h => by cases h) ?_
      clear hK K
      refine ordV_nil ?_
      have hbE := (((HBr.out.trans (HD.mono (by omega))).alloc (by have := HBr.out.size; have := HD.size; omega) (.cells #[.int .i64 fr, .int .i64 tt, .int .i64 (k : Int), .int .i64 co] 54)).trans (hb4.mono (by omega))).setCell (p := ⟨b2, 1, none⟩) (Nat.le_refl _) (.slice A9 (ks ++ [Lk.mk fr tt (k : Int) co]).length c9)
      have hBE := hB4.set_ 1 (.slice A9 (ks ++ [Lk.mk fr tt (k : Int) co]).length c9)
      have hOE := own_set hown5 (a := ⟨b2, 1, none⟩) (fun e => by have := own_block_le hown5 _ e; simp at this; omega) (.slice A9 (ks ++ [Lk.mk fr tt (k : Int) co]).length c9)
      go_wp2_with fail
      go_roundw
      case rel =>
        refine ⟨k + 1, .slice A9 (ks.length + 1) c9, ks ++ [(Lk.mk fr tt (k : Int) co)], by omega, by omega, .inl hn2, ?_, by simp; omega, by go_num, by simpa using hOE, by simpa using hBE, by simpa using hbE⟩
        show ks ++ [(Lk.mk fr tt (k : Int) co)] = if 1 < n then mkTo n l (k + 1) else []
        rw [if_pos hn2, HP.out, HK.out, if_pos hn2]
        unfold mkLk
        rw [HFR.out, HMD.out, HCO.out, HTO.out]
      case measure => simp [intOf]; omega
    · have hks : Hid (ks = fin) := by
        show ks = _
        rw [HK.out, ← HFIN.out]
        by_cases hn2 : 1 < n
        · rw [if_pos hn2, if_pos hn2, show min l.length 14 = k by omega]
        · rw [if_neg hn2, if_neg hn2]
      obtain ⟨A9, c9, rfl, hc9, hcm9, hs9⟩ := own_slr (R := RLk) hown (fun _ => rfl) (fun _ => rfl) rfl
      have HE := Lib.hid hlt
      have hR1 := hB1.below hbr hlt2
      have z0 := hR1.cell 0
      have z1 := hR1.cell 1
      have zf0 := hR1.frozen 0
      have zf1 := hR1.frozen 1
      have zl := hR1.lt
      simp at z0 z1
      have hcase : (l.length ≤ k) ∨ (k < l.length ∧ 14 ≤ k) ∨ (k < l.length ∧ k < 14 ∧ n ≤ 1) := by omega
      clear hlt
      have HB := Lib.hid hB
      have HR1 := Lib.hid hR1
      have HS9 := Lib.hid hs9
      have HBR := Lib.hid hbr
      have HBW := Lib.hid hbw
      have hw1 := own_set hown (a := ⟨b1, 0, none⟩) (fun e => by have := own_block_le hown _ e; simp at this; omega) (.int .i64 n)
      have hw2 := own_set hw1 (a := ⟨b1, 1, none⟩) (fun e => by have := own_block_le hw1 _ e; simp at this; omega) (.slice A9 ks.length c9)
      have HW2 := Lib.hid hw2
      clear hB hR hR1 hown hs9 hbr hbw hw1 hw2
      rcases hcase with hc1 | ⟨hc1, hc2⟩ | ⟨hc1, hc2, hc3⟩
      all_goals
        go_wp2_with fail
        (try simp only [Exit.inBlock, Exit.then])
        refine ret_cell (t := 30) (cs := #[.int .i64 n, .slice A9 ks.length c9]) ((HR1.out.set_ 0 (.int .i64 n)).set_ 1 (.slice A9 ks.length c9)) rfl rfl Try.underlying30 rfl (by kernel_rfl) rfl ?_
        obtain ⟨A10, c10, he, hc10, hcm10, hs10⟩ := own_slr (R := RLk) HW2.out (fun _ => rfl) (fun _ => rfl) rfl
        obtain ⟨rfl, _, rfl⟩ : A9 = A10 ∧ ks.length = ks.length ∧ c9 = c10 := by injection he with h1 h2 h3; exact ⟨h1, h2, h3⟩
        rw [← hks.out]
        exact ⟨A9, c9, rfl, hc9, hcm9, hs10, (HBW.out.setCell (Nat.le_of_lt hlt1) _).setCell (Nat.le_of_lt hlt1) _⟩
end Go.Proofs.Ytbikjmafddndpaa
