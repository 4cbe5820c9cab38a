/-
  The walks of layers 15 and 16: the reference's order.
-/
import Derived.Test.YtbikjmafddndpaaGrWalkP
import Derived.Test.YtbikjmafddndpaaGrWalkO
import Derived.Deep.CutBlock
namespace Go.Proofs.Ytbikjmafddndpaa
open Go Go.RowKit

section
variable {α : Type} {p : α → Bool}
theorem takeG_at : ∀ {ws : List α} {t : Nat} {x : α}, t < (ws.takeWhile p).length → ws[t]? = some x → p x = true
  | [], t, x, h, _ => by simp at h
  | y :: ws, t, x, h, hx => by
    rw [List.takeWhile_cons] at h
    by_cases hy : p y = true
    · rw [if_pos hy] at h
      cases t with
      | zero => simp at hx; rw [← hx]; exact hy
      | succ t => exact takeG_at (t := t) (by simpa using h) (by simpa using hx)
    · rw [if_neg hy] at h; simp at h
theorem takeG_end : ∀ {ws : List α} {x : α}, ws[(ws.takeWhile p).length]? = some x → p x = false
  | [], x, h => by simp at h
  | y :: ws, x, h => by
    rw [List.takeWhile_cons] at h
    cases hy : p y with
    | true =>
      rw [if_pos hy] at h
      exact takeG_end (ws := ws) (by simpa using h)
    | false =>
      rw [if_neg (by rw [hy]; simp)] at h
      simp at h
      rw [← h]; exact hy
theorem takeG_le (ws : List α) : (ws.takeWhile p).length ≤ ws.length := (List.takeWhile_sublist _).length_le
theorem takeG_take (ws : List α) : ws.take (ws.takeWhile p).length = ws.takeWhile p := (List.prefix_iff_eq_take.1 (List.takeWhile_prefix p)).symm
end
theorem slr_dropS {α : Type} {s : Nat} {R : World → α → List Value → Prop} {w : World} {b o : Nat} {xs : List α} (h : SlR s R w (some ⟨b, o, none⟩) xs) (n : Nat) : SlR s R w (some ⟨b, o + n * s, none⟩) (xs.drop n) := fun hne => by
  obtain ⟨b', o', hA, hb, hc⟩ := h (by rintro rfl; simp at hne)
  obtain ⟨rfl, rfl⟩ : b = b' ∧ o = o' := by injection hA with hA; injection hA with h1 h2; exact ⟨h1, h2⟩
  refine ⟨b, o + n * s, rfl, hb, fun k x hk => ?_⟩
  rw [List.getElem?_drop] at hk
  obtain ⟨vs, h1, h2, h3⟩ := hc _ x hk
  refine ⟨vs, h1, h2, fun j v hj => ?_⟩
  have := h3 j v hj
  rw [show o + n * s + k * s + j = o + (n + k) * s + j by rw [Nat.add_mul]; omega]
  exact this
theorem slr_preS {α : Type} {s : Nat} {R : World → α → List Value → Prop} {w : World} {A : Option Addr} {xs : List α} (h : SlR s R w A xs) (n : Nat) : SlR s R w A (xs.take n) := fun hne => by
  obtain ⟨b, o, hA, hb, hc⟩ := h (by rintro rfl; simp at hne)
  refine ⟨b, o, hA, hb, fun k x hk => hc k x ?_⟩
  rw [List.getElem?_take] at hk
  split at hk
  · exact hk
  · cases hk
theorem fold_snocG {α β : Type} {f : α → β → α} {L : List β} {j : Nat} {i : β} {a : α} (h : L[j]? = some i) : (L.take (j + 1)).foldl f a = f ((L.take j).foldl f a) i := by
  rw [take_succ_of h, List.foldl_append]
  rfl
/-- A row that is not empty lies somewhere. -/
theorem own_some {α : Type} {enc : α → List Value} {w : World} {base : Nat} {e : TypeId} {s : Nat} {v : Value} {xs : List α} (h : w.ownsRow base e s v xs.length (xs.flatMap enc)) (hl : ∀ x, (enc x).length = s) (hne : xs ≠ []) :
    ∃ g cap, v = .slice (some ⟨g, 0, none⟩) xs.length cap ∧ base ≤ g ∧ xs.length ≤ cap ∧ cap ≤ maxLen ∧ SlR s (fun _ x vs => vs = enc x) w (some ⟨g, 0, none⟩) xs := by
  obtain ⟨A, cap, rfl, h1, h2, h3⟩ := own_slr (R := fun _ x vs => vs = enc x) h hl (fun _ => rfl) rfl
  rcases h.2 with ⟨hv, h0⟩ | ⟨g, cap', cur, hv, hg, _⟩
  · exact absurd (List.length_eq_zero_iff.1 h0) hne
  · injection hv with hv1 hv2 hv3
    subst hv1
    exact ⟨g, cap, rfl, hg, h1, h2, h3⟩
theorem one_mc {ms : List MC} {u : Value} (hu : u ∈ ms.flatMap encMc) : u.oneCell' = true := by
  obtain ⟨m, _, hm⟩ := List.mem_flatMap.1 hu
  simp [encMc] at hm
  rcases hm with rfl | rfl <;> rfl
set_option maxRecDepth 100000 in
set_option maxHeartbeats 16000000 in
theorem reford_any (A : Option Addr) (c : Nat) (ms : List MC) (w : World) (hx : SlR 2 RMc w A ms) (hm : MsOK w ms) (hl : ms.length ≤ 2000) :
    Calls Try.prog 43 #[.slice A ms.length c] w (IsCans (orderedM (ms.map (·.x))) w) := by
  obtain ⟨i0, hi, hz0, hz1, hz2⟩ := info_parts can_info
  obtain ⟨w2, hw2⟩ : ∃ w2, w.alloc (.cells #[] 43) = w2 := ⟨_, rfl⟩
  have hb2 : Below w.heap.size w w2 := by rw [← hw2]; exact nw _ (Below.refl _ _)
  have ho2 : w2.ownsRow w.heap.size 43 2 (.slice (some ⟨w.heap.size, 0, none⟩) 0 0) 0 [] := by rw [← hw2]; exact own_empty w _ 2 _ (Nat.le_refl _)
  have HW2 := Lib.hid hw2
  have hml : ms.length ≤ 9223372036854775807 := by omega
  clear hw2
  go_enter Try.func43, Try.ntmps43
  go_upto_region 2 with fail
  rw [HW2.out]
  go_wp2_with fail
  go_loopw [3, 4] (fun ov i wr => ∃ (j gv cv : Nat) (os : List MC), j ≤ ms.length ∧ i = .int .i64 j ∧ ov = .slice (some ⟨gv, 0, none⟩) os.length cv ∧ os.length ≤ j ∧ j ≤ os.length ∧ wr.ownsRow w.heap.size 43 2 (.slice (some ⟨gv, 0, none⟩) os.length cv) os.length (os.flatMap encMc) ∧ Hid (∀ m ∈ os, m ∈ ms) ∧ Hid (os.map (·.x) = ((ms.map (·.x)).take j).foldl insC []) ∧ Below w.heap.size w wr) (fun _ i _ => ms.length - (intOf i).toNat)
  case atStart => exact ⟨0, w.heap.size, 0, [], by omega, rfl, rfl, by simp, by simp, ho2, (by show ∀ m ∈ ([] : List MC), _; simp), rfl, hb2⟩
  case round =>
    obtain ⟨j, gv, cv, os, hj, rfl, rfl, hol1, hol2, hown, HSUB, HOX, hbr⟩ := hrel
    by_cases hlt : j < ms.length
    · obtain ⟨b, off, m, rfl, hbb, hmj, d0, d1⟩ := (hx.below keeps_mc hbr).mc hlt
      obtain ⟨tw, htw⟩ : ∃ L, os.takeWhile (fun o => canLt o.x m.x) = L := ⟨_, rfl⟩
      obtain ⟨T, hT⟩ : ∃ T, tw.length = T := ⟨_, rfl⟩
      have hTl : T ≤ os.length := by rw [← hT, ← htw]; exact takeG_le _
      have HTK : Hid (os.take T = tw) := by show _ = _; rw [← hT, ← htw]; exact takeG_take _
      have HTA : Hid (∀ (t : Nat) (y : MC), t < T → os[t]? = some y → canLt y.x m.x = true) := fun t y ht hy => takeG_at (p := fun o => canLt o.x m.x) (ws := os) (t := t) (x := y) (by rw [htw, hT]; exact ht) hy
      have HTE : Hid (∀ y : MC, os[T]? = some y → canLt y.x m.x = false) := fun y hy => takeG_end (p := fun o => canLt o.x m.x) (ws := os) (x := y) (by rw [htw, hT]; exact hy)
      have HIN : Hid ((os.take T ++ [m] ++ os.drop T).map (·.x) = ((ms.map (·.x)).take (j + 1)).foldl insC []) := by
        show _ = _
        rw [fold_snocG (show (ms.map (·.x))[j]? = some m.x by rw [List.getElem?_map, hmj]; rfl), ← HOX.out, HTK.out]
        unfold insC
        rw [List.takeWhile_map]
        have e1 : os.takeWhile ((fun c => canLt c m.x) ∘ fun x => x.x) = tw := htw
        rw [e1, List.length_map, hT, List.map_append, List.map_append, List.map_drop]
        rfl
      have hmok := hm m (List.mem_of_getElem? hmj)
      have HSUB2 : Hid (∀ y ∈ os.take T ++ [m] ++ os.drop T, y ∈ ms) := fun y hy => by
        rcases List.mem_append.1 hy with hy | hy
        · rcases List.mem_append.1 hy with hy | hy
          · exact HSUB.out y (List.mem_of_mem_take hy)
          · obtain rfl := List.mem_singleton.1 hy; exact List.mem_of_getElem? hmj
        · exact HSUB.out y (List.mem_of_mem_drop hy)
      have HOWN := Lib.hid hown
      have HBR := Lib.hid hbr
      have HMJ := Lib.hid hmj
      clear htw hT hmj hown hbr
      go_upto_block 2 with fail
      go_cut [5] (fun s5 W => s5 = .int .i64 (T : Nat) ∧ Below wr.heap.size wr W)
      case first =>
        go_wp2_with fail
        go_loopw [5] (fun tv wi => ∃ t : Nat, t ≤ T ∧ tv = .int .i64 t ∧ Below wr.heap.size wr wi) (fun tv _ => T - (intOf tv).toNat)
        case atStart => exact ⟨0, by omega, rfl, Below.refl _ _⟩
        case round =>
          obtain ⟨t, ht, rfl, hbi⟩ := hrel
          have hosm : os.length ≤ 9223372036854775807 := by omega
          by_cases htl : t < os.length
          · have hown := own_below HOWN.out hbi
            obtain ⟨A9, c9, he9, _, _, hs9⟩ := own_slr (R := RMc) hown (fun _ => rfl) (fun _ => rfl) rfl
            injection he9 with he1 he2 he3
            subst he1
            obtain ⟨b3, o3, y, hA3, hb3, hy, e0, e1⟩ := hs9.mc htl
            obtain ⟨rfl, rfl⟩ : gv = b3 ∧ 0 = o3 := by injection hA3 with hA3; injection hA3 with h1 h2; exact ⟨h1, h2⟩
            rw [Nat.zero_add] at e0 e1
            have hbw : Below w.heap.size w wr := HBR.out.trans (hbi.mono HBR.out.size)
            have hyok := hm y (HSUB.out y (List.mem_of_getElem? hy))
            have d0 := (hbi.cell (p := ⟨b, _, none⟩) hbb).trans d0
            have d1 := (hbi.cell (p := ⟨b, _, none⟩) hbb).trans d1
            have hbb := Nat.lt_of_lt_of_le hbb hbi.size
            have htl' : decide (t < os.length) = true := decide_eq_true htl
            have htl2 : (t : Int) < (os.length : Int) := by omega
            have hjl2 : (j : Int) < (ms.length : Int) := by omega
            have HLS : Hid (∀ W, Below wr.heap.size wr W → Calls Try.prog 24 #[.agg #[.slice y.A y.x.links.length y.c, .int .i64 y.x.cost], .agg #[.slice m.A m.x.links.length m.c, .int .i64 m.x.cost]] W fun e w' => e = .returned (.bool (canLt y.x m.x)) ∧ Below W.heap.size W w') := fun W hW =>
              refless_any y.A m.A y.x m.x y.c m.c W (hyok.1.below (hbw.trans (hW.mono hbw.size))).slr (hmok.1.below (hbw.trans (hW.mono hbw.size))).slr (Nat.le_trans hyok.2.1 hyok.2.2) (Nat.le_trans hmok.2.1 hmok.2.2)
            have HBI := Lib.hid hbi
            have HY := Lib.hid hy
            by_cases htT : t < T
            · have hq := HTA.out t y htT hy
              rw [hq] at HLS
              clear hq hy hbi hown hs9 he2 he3 hbw hA3
              go_wp2_with fail
              refine ordB_below (.quiet 0 (.quiet 1 (.quiet 2 (.quiet 3 (.quiet 4 (.quiet 5 (.quiet 6 (.quiet 7 (.quiet 8 (.quiet 9 (.quiet 10 (.quiet 11 (.quiet 12 (.only 13 (.quiet 14 .done))))))))))))))) (by kernel_rfl) (by kernel_rfl) (by kernel_rfl) (fun _ _ _ _ _ h => h) ?_
              intro V0 hV0
              iterate 13 (first
                | (refine ordB_skip rfl rfl ?_; simp only [Act.put, List.setIfInBounds_toArray, List.set_cons_zero, List.set_cons_succ])
                | (refine ordB_take (v := ?_) rfl rfl ?_ ?_
                   rotate_left 1
                   focus (intro W hW; obtain ⟨hcW, hfW⟩ := bcell hW; (go_simp <;> with_reducible rfl))
                   simp only [Act.put, List.setIfInBounds_toArray, List.set_cons_zero, List.set_cons_succ]))
              refine ordB_only (opB_call rfl rfl (fun K hK => ?_))
              go_simp
              go_at_call 24
              refine (HLS.out V0 hV0).mono ?_
              rintro e V0_1 ⟨rfl, hb9⟩
              refine hK.out _ _ (hV0.trans (hb9.mono hV0.size)) (fun hV0_1 => ?_)
              iterate 1 (first
                | (refine ordB_skip rfl rfl ?_; simp only [Act.put, List.setIfInBounds_toArray, List.set_cons_zero, List.set_cons_succ])
                | (refine ordB_take (v := ?_) rfl rfl ?_ ?_
                   rotate_left 1
                   focus (intro W hW; obtain ⟨hcW, hfW⟩ := bcell hW; (go_simp <;> with_reducible rfl))
                   simp only [Act.put, List.setIfInBounds_toArray, List.set_cons_zero, List.set_cons_succ]))
              refine ordB_nil ?_
              have hE := HBI.out.trans (hV0_1.mono HBI.out.size)
              go_wp2_with fail
              go_round
              case rel => exact ⟨t + 1, by omega, by go_num, hE⟩
              case measure => simp [intOf]; omega
            · have hq := HTE.out y (by rw [show T = t by omega]; exact hy)
              obtain rfl : T = t := by omega
              rw [hq] at HLS
              clear hq hy hbi hown hs9 he2 he3 hbw hA3
              go_wp2_with fail
              refine ordB_below (.quiet 0 (.quiet 1 (.quiet 2 (.quiet 3 (.quiet 4 (.quiet 5 (.quiet 6 (.quiet 7 (.quiet 8 (.quiet 9 (.quiet 10 (.quiet 11 (.quiet 12 (.only 13 (.quiet 14 .done))))))))))))))) (by kernel_rfl) (by kernel_rfl) (by kernel_rfl) (fun _ _ _ _ _ h => h) ?_
              intro V0 hV0
              iterate 13 (first
                | (refine ordB_skip rfl rfl ?_; simp only [Act.put, List.setIfInBounds_toArray, List.set_cons_zero, List.set_cons_succ])
                | (refine ordB_take (v := ?_) rfl rfl ?_ ?_
                   rotate_left 1
                   focus (intro W hW; obtain ⟨hcW, hfW⟩ := bcell hW; (go_simp <;> with_reducible rfl))
                   simp only [Act.put, List.setIfInBounds_toArray, List.set_cons_zero, List.set_cons_succ]))
              refine ordB_only (opB_call rfl rfl (fun K hK => ?_))
              go_simp
              go_at_call 24
              refine (HLS.out V0 hV0).mono ?_
              rintro e V0_1 ⟨rfl, hb9⟩
              refine hK.out _ _ (hV0.trans (hb9.mono hV0.size)) (fun hV0_1 => ?_)
              iterate 1 (first
                | (refine ordB_skip rfl rfl ?_; simp only [Act.put, List.setIfInBounds_toArray, List.set_cons_zero, List.set_cons_succ])
                | (refine ordB_take (v := ?_) rfl rfl ?_ ?_
                   rotate_left 1
                   focus (intro W hW; obtain ⟨hcW, hfW⟩ := bcell hW; (go_simp <;> with_reducible rfl))
                   simp only [Act.put, List.setIfInBounds_toArray, List.set_cons_zero, List.set_cons_succ]))
              refine ordB_nil ?_
              have hE := HBI.out.trans (hV0_1.mono HBI.out.size)
              go_wp2_with fail
              go_meet
              exact ⟨rfl, hE⟩
          · obtain rfl : T = t := by omega
            have htl' : decide (T < os.length) = false := decide_eq_false htl
            have HBI := Lib.hid hbi
            clear hbi
            go_wp2_with fail
            refine ordB_below (.quiet 0 (.quiet 1 (.quiet 2 (.quiet 3 (.quiet 4 (.quiet 5 (.quiet 6 (.quiet 7 (.quiet 8 (.quiet 9 (.quiet 10 (.quiet 11 (.quiet 12 (.only 13 (.quiet 14 .done))))))))))))))) (by kernel_rfl) (by kernel_rfl) (by kernel_rfl) (fun _ _ _ _ _ h => h) ?_
            intro V0 hV0
            iterate 13 (first
              | (refine ordB_skip rfl rfl ?_; simp only [Act.put, List.setIfInBounds_toArray, List.set_cons_zero, List.set_cons_succ])
              | (refine ordB_take (v := ?_) rfl rfl ?_ ?_
                 rotate_left 1
                 focus (intro W hW; obtain ⟨hcW, hfW⟩ := bcell hW; (go_simp <;> with_reducible rfl))
                 simp only [Act.put, List.setIfInBounds_toArray, List.set_cons_zero, List.set_cons_succ]))
            refine ordB_only (opB_cskip rfl rfl hV0 ?_)
            simp only [Act.put, List.setIfInBounds_toArray, List.set_cons_zero, List.set_cons_succ]
            iterate 1 (first
              | (refine ordB_skip rfl rfl ?_; simp only [Act.put, List.setIfInBounds_toArray, List.set_cons_zero, List.set_cons_succ])
              | (refine ordB_take (v := ?_) rfl rfl ?_ ?_
                 rotate_left 1
                 focus (intro W hW; obtain ⟨hcW, hfW⟩ := bcell hW; (go_simp <;> with_reducible rfl))
                 simp only [Act.put, List.setIfInBounds_toArray, List.set_cons_zero, List.set_cons_succ]))
            refine ordB_nil ?_
            have hE := HBI.out.trans (hV0.mono HBI.out.size)
            go_wp2_with fail
            go_meet
            exact ⟨rfl, hE⟩
      case rest =>
        obtain ⟨W5, rfl⟩ : ∃ W, W = wc := ⟨wc, rfl⟩
        obtain ⟨rfl, hb5⟩ := hcut
        have hown5 := own_below HOWN.out hb5
        obtain ⟨A9, c9, he9, hcv1, hcv2, hs9⟩ := own_slr (R := RMc) hown5 (fun _ => rfl) (fun _ => rfl) rfl
        injection he9 with he1 he2 he3
        subst he1
        subst he3
        have d0 := (hb5.cell (p := ⟨b, _, none⟩) hbb).trans d0
        have d1 := (hb5.cell (p := ⟨b, _, none⟩) hbb).trans d1
        have hbb := Nat.lt_of_lt_of_le hbb hb5.size
        have hTc : T ≤ cv := by omega
        have hTc' : (T : Int) ≤ (cv : Int) := by omega
        have hTl' : (T : Int) ≤ (os.length : Int) := by omega
        have hjl2 : (j : Int) < (ms.length : Int) := by omega
        have hbr5 : Below w.heap.size w W5 := HBR.out.trans (hb5.mono HBR.out.size)
        have hgvlt : gv < W5.heap.size := by
          rcases Nat.lt_or_ge gv W5.heap.size with h | h
          · exact h
          · exact absurd rfl (own_lt hown5 h)
        obtain ⟨W6, hW6⟩ : ∃ W, W5.alloc (.cells #[] 43) = W := ⟨_, rfl⟩
        have hb6 : Below W5.heap.size W5 W6 := by rw [← hW6]; exact nw _ (Below.refl _ _)
        have ho6 : W6.ownsRow W5.heap.size 43 2 (.slice (some ⟨W5.heap.size, 0, none⟩) 0 0) 0 [] := by rw [← hW6]; exact own_empty W5 _ 2 _ (Nat.le_refl _)
        have hs6 := slr_preS (hs9.below keeps_mc hb6) T
        have htl6 : (os.take T).length = T := by rw [List.length_take]; omega
        have hs56 := hb6.size
        have HB6 := Lib.hid hb6
        have HS9 := Lib.hid hs9
        have HBR5 := Lib.hid hbr5
        have HWS : Hid (w.heap.size ≤ W5.heap.size) := hbr5.size
        have HTL6 := Lib.hid htl6
        clear hown5 hs9 hb6 hb5 hbr5
        go_upto_region 9 with (at_builtin; go_loud (refine wpList_appS (enc := encMc) (R := RMc) rfl _ _ 32 rfl W5.heap.size 43 i0 _ 2 32 Try.underlying32 hi hz0 hz1 hz2 rfl (by decide) (.slice (some ⟨W5.heap.size, 0, none⟩) 0 0) 0 [] rfl ho6 (some ⟨gv, 0, none⟩) cv (os.take T) (by rw [HTL6.out]; rfl) hs6 (fun _ _ _ h => h) (fun _ => rfl) (fun u hu => one_mc hu) (by rw [HTL6.out]; omega) (by decide) hs56 ?_; intro v7 W7 h71 h72 h73))
        have h71' : W7.ownsRow W5.heap.size 43 2 v7 (os.take T).length ((os.take T).flatMap encMc) := by simpa using h71
        have hb57 : Below W5.heap.size W5 W7 := HB6.out.trans h72
        have d0 := (hb57.cell (p := ⟨b, _, none⟩) hbb).trans d0
        have d1 := (hb57.cell (p := ⟨b, _, none⟩) hbb).trans d1
        have hs57 := hb57.size
        have hs57' : W5.heap.size ≤ (W7.alloc (.cells #[.slice m.A m.x.links.length m.c, .int .i64 m.x.cost] 43)).heap.size := by simp; omega
        have h71a := h71'.alloc (.cells #[.slice m.A m.x.links.length m.c, .int .i64 m.x.cost] 43)
        have HB57 := Lib.hid hb57
        clear h71 h71' h72 h73 hb57 ho6 hs6
        go_upto_region 10 with (at_builtin; go_loud (refine wpList_appS (enc := encMc) (R := RMc) rfl _ _ 32 rfl W5.heap.size 43 i0 _ 2 32 Try.underlying32 hi hz0 hz1 hz2 rfl (by decide) v7 _ _ rfl h71a (some ⟨W7.heap.size, 0, none⟩) 1 [m] rfl (slr_blk (enc := encMc) (Blk.new_ rfl) (fun _ => rfl) (fun _ => rfl)) (fun _ _ _ h => h) (fun _ => rfl) (fun u hu => one_mc hu) (by simp; omega) (by decide) hs57' ?_; intro v8 W8 h81 h82 h83))
        have h81' : W8.ownsRow W5.heap.size 43 2 v8 (os.take T ++ [m]).length ((os.take T ++ [m]).flatMap encMc) := by rw [List.length_append, List.flatMap_append]; exact h81
        have hb58 : Below W5.heap.size W5 W8 := HB57.out.trans (((Below.refl W7.heap.size W7).alloc (Nat.le_refl _) (.cells #[.slice m.A m.x.links.length m.c, .int .i64 m.x.cost] 43)).mono hs57 |>.trans h82)
        have hs8 := HS9.out.below keeps_mc hb58
        have hs58 := hb58.size
        have HEX : Hid (∃ A', (if cv = T then some (Addr.mk gv 0 none) else some (Addr.mk gv (T * 2) none)) = A' ∧ SlR 2 RMc W8 A' (os.drop T)) := by
          show ∃ _, _
          by_cases hct : cv = T
          · refine ⟨_, rfl, ?_⟩
            rw [List.drop_eq_nil_of_le (by omega)]
            exact SlR.nil
          · refine ⟨_, rfl, ?_⟩
            rw [if_neg hct]
            have := slr_dropS hs8 T
            rwa [Nat.zero_add] at this
        obtain ⟨A', hA', hsA⟩ := HEX.out
        have hdl : (os.drop T).length = os.length - T := List.length_drop
        have HDL := Lib.hid hdl
        have HBW8 : Hid (Below w.heap.size w W8) := HBR5.out.trans (hb58.mono HWS.out)
        clear h81 h82 h83 hb58 hs8 hdl
        go_upto_region 4 with (at_builtin; go_loud (refine wpList_appS (enc := encMc) (R := RMc) rfl _ _ 32 rfl W5.heap.size 43 i0 _ 2 32 Try.underlying32 hi hz0 hz1 hz2 rfl (by decide) v8 _ _ rfl h81' A' (cv - T) (os.drop T) (by rw [HDL.out]; rfl) hsA (fun _ _ _ h => h) (fun _ => rfl) (fun u hu => one_mc hu) (by rw [HDL.out]; simp; omega) (by decide) hs58 ?_; intro v9 W9 h91 h92 h93))
        have h91' : W9.ownsRow W5.heap.size 43 2 v9 (os.take T ++ [m] ++ os.drop T).length ((os.take T ++ [m] ++ os.drop T).flatMap encMc) := by
          rw [List.length_append, List.flatMap_append]; exact h91
        obtain ⟨gv', cv', rfl, _, _, _, _⟩ := own_some h91' (fun _ => rfl) (by simp)
        have HO9 := Lib.hid (own_base h91' HWS.out)
        have HB9 := Lib.hid (HBW8.out.trans (h92.mono HWS.out))
        have hlen : (os.take T ++ [m] ++ os.drop T).length = os.length + 1 := by simp; omega
        have HLEN := Lib.hid hlen
        generalize os.take T ++ [m] ++ os.drop T = ns at *
        clear h91 h91' h92 h93 hlen hsA hA' h81' HEX
        go_wp2_with fail
        go_roundw
        case rel => exact ⟨j + 1, gv', cv', ns, by omega, by go_num, rfl, by rw [HLEN.out]; omega, by rw [HLEN.out]; omega, HO9.out, HSUB2.out, HIN, HB9.out⟩
        case measure => simp [intOf]; omega
    · have HF : Hid (os.map (·.x) = orderedM (ms.map (·.x))) := by
        show _ = _
        rw [HOX.out, List.take_of_length_le (by rw [List.length_map]; omega)]
        rfl
      obtain rfl : j = ms.length := by omega
      have HO := Lib.hid hown
      have HMS : Hid (MsOK wr os) := (hm.below hbr).sub HSUB.out
      have HE := Lib.hid hbr
      clear hown hbr
      go_wp2_with fail
      go_ret
      exact ⟨_, os, rfl, HO.out, HMS.out, HF, HE.out⟩
end Go.Proofs.Ytbikjmafddndpaa
