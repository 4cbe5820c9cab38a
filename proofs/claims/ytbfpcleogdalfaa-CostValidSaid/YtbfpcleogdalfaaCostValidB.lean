/-
  CostValid: the walk.
-/
import Derived.Test.YtbfpcleogdalfaaCostValidA
namespace Go.Proofs.Ytbfpcleogdalfaa
open Go Go.RowKit

/-- Behind the first assignment: the model lies in rows of the call's own. -/
def MidV (m : Mo) (W0 : World) (g ka : Nat) (wa wb : Int) (x0 x1 x2 x3 x4 x6 x7 x8 : Value) (a : Act) (W : World) : Prop :=
  ∃ (f : Nat → Value) (g1 g2 : Nat) (v3 : Value) (k1 k2 : Nat), a = LV f x0 x1 x2 x3 x4 x6 x7 x8 ∧ Blk W g 34 #[.slice (some ⟨g1, 0, none⟩) m.ws.length k1, .slice (some ⟨g2, 0, none⟩) m.cs.length k2, v3, .int .i64 m.back] ∧ Blk W ka 45 #[.int .u8 wa, .int .u8 wb] ∧
    W.ownsRow W0.heap.size 9 1 (.slice (some ⟨g1, 0, none⟩) m.ws.length k1) m.ws.length (m.ws.flatMap (fun x => [Value.string x])) ∧ W.ownsRow W0.heap.size 3 1 (.slice (some ⟨g2, 0, none⟩) m.cs.length k2) m.cs.length (m.cs.flatMap (fun x => [Value.int .i64 x])) ∧ W.ownsRow W0.heap.size 50 3 v3 m.ps.length (m.ps.flatMap encP) ∧
    Below g W0 W
set_option maxRecDepth 100000 in
set_option maxHeartbeats 8000000 in
theorem costValid_any (x : Raw) (A1 A2 A3 : Option Addr) (c1 c2 c3 : Nat) (wa wb n : Int) (w : World) (h : RawR w x A1 A2 A3) (hwa : 0 ≤ wa ∧ wa ≤ 255) (hwb : 0 ≤ wb ∧ wb ≤ 255) (hn : -2147483648 ≤ n ∧ n ≤ 2147483647) :
    Calls Try.prog 4 #[.agg #[.slice A1 x.words.length c1, .slice A2 x.counts.length c2, .slice A3 x.uses.length c3, .int .u8 x.back], .agg #[.int .u8 wa, .int .u8 wb], .int .i32 n] w fun e w' => e = .returned (.bool true) ∧ Below w.heap.size w w' := by
  have hlim := made_lim x h.b2 h.b3 h.bk
  have HLIM := Lib.hid hlim
  have HBX := Lib.hid (show Below w.heap.size w ((w.alloc (.cells #[.slice A1 x.words.length c1, .slice A2 x.counts.length c2, .slice A3 x.uses.length c3, .int .u8 x.back] 26)).alloc (.cells #[.int .u8 wa, .int .u8 wb] 45)) from ((Below.refl w.heap.size w).alloc (Nat.le_refl _) (.cells #[.slice A1 x.words.length c1, .slice A2 x.counts.length c2, .slice A3 x.uses.length c3, .int .u8 x.back] 26)).alloc (by simp) (.cells #[.int .u8 wa, .int .u8 wb] 45))
  have HR := Lib.hid (h.below HBX.out)
  have HK0 := Lib.hid ((Blk.new w 26 #[.slice A1 x.words.length c1, .slice A2 x.counts.length c2, .slice A3 x.uses.length c3, .int .u8 x.back]).alloc (.cells #[.int .u8 wa, .int .u8 wb] 45))
  have HK1 := Lib.hid (Blk.new_ (w := (w.alloc (.cells #[.slice A1 x.words.length c1, .slice A2 x.counts.length c2, .slice A3 x.uses.length c3, .int .u8 x.back] 26))) (t := 45) (cs := #[.int .u8 wa, .int .u8 wb]) (g := w.heap.size + 1) (by simp))
  clear h hlim
  go_enter Try.func4, Try.ntmps4
  go_wp2_with (first | (go_at_call 10; (refine (sanity_any _).mono ?_; rintro e w1 ⟨rfl, hb1⟩; have hkr := HK0.out.below hb1 HK0.out.lt; have rw0 := hkr.cell 0; have rw1 := hkr.cell 1; have rw2 := hkr.cell 2; have rw3 := hkr.cell 3)) | (go_at_call 11; go_loud (refine (made_any x A1 A2 A3 c1 c2 c3 _ (HR.out.below hb1)).mono ?_; rintro e w2 ⟨B1, B2, B3, d1, d2, d3, rfl, hmor, hcaps, hb2⟩)))
  have hb12 := hb1.trans (hb2.mono hb1.size)
  have HMB := Lib.hid (mb_new hmor hcaps)
  have HB := Lib.hid ((HBX.out.trans (hb12.mono HBX.out.size)).alloc (Nat.le_trans HBX.out.size hb12.size) (.cells #[.slice B1 (madeM x).ws.length d1, .slice B2 (madeM x).cs.length d2, .slice B3 (madeM x).ps.length d3, .int .i64 (madeM x).back] 34))
  have HKB1 := Lib.hid ((HK1.out.below hb12 HK1.out.lt).alloc (.cells #[.slice B1 (madeM x).ws.length d1, .slice B2 (madeM x).cs.length d2, .slice B3 (madeM x).ps.length d3, .int .i64 (madeM x).back] 34))
  have hgk1 := (HK1.out.below hb12 HK1.out.lt).lt
  clear hb1 hb2 hb12 hkr rw0 rw1 rw2 rw3 HK0 HR HBX hmor hcaps HK1
  generalize w2.alloc (.cells #[.slice B1 (madeM x).ws.length d1, .slice B2 (madeM x).cs.length d2, .slice B3 (madeM x).ps.length d3, .int .i64 (madeM x).back] 34) = W at *
  generalize w2.heap.size = g at *
  generalize madeM x = m at *
  obtain ⟨hl, hw2, hw8⟩ := HLIM.out
  have HOK := Lib.hid hl.ok
  have HL := Lib.hid hl
  have HCL := Lib.hid (show m.cs.length = m.ws.length from hl.ok.1.1.2.1)
  clear hl HLIM
  have HKA := HKB1
  have hmb := HMB.out
  have dv0 := Lib.hid (valid_any m B1 B2 B3 d1 d2 d3 W hmb.r)
  rw [show decide (MoOK m) = true from decide_eq_true HOK.out] at dv0
  refine dv0.out.mono ?_
  rintro e W5 ⟨rfl, hb5⟩
  have hmb5 := hmb.below hb5
  have hka5 := HKA.out.below hb5 HKA.out.lt
  have HMB5 := Lib.hid hmb5
  have HKA5 := Lib.hid hka5
  have q0 := hmb5.b.cell 0
  have q1 := hmb5.b.cell 1
  have q2 := hmb5.b.cell 2
  have q3 := hmb5.b.cell 3
  have hg := hmb5.b.lt
  clear hmb hmb5 hka5 dv0
  go_wp2_with fail
  obtain ⟨is, his, his0, his1, his2⟩ := info_parts cloneS_info
  obtain ⟨ii, hii, hii0, hii1, hii2⟩ := info_parts cloneI_info
  obtain ⟨ip, hip, hip0, hip1, hip2⟩ := info_parts cloneP_info
  have hl1 := HMB5.out.r.l1; have hl2 := HMB5.out.r.l2; have hl3 := HMB5.out.r.l3
  refine region_cut (MidV m W5 g (w.heap.size + 1) wa wb (.agg #[.slice A1 x.words.length c1, .slice A2 x.counts.length c2, .slice A3 x.uses.length c3, .int .u8 x.back]) (.agg #[.int .u8 wa, .int .u8 wb]) (.int .i32 n) (.pointer (some ⟨w.heap.size, 0, none⟩)) (.pointer (some ⟨w.heap.size + 1, 0, none⟩)) (.bool false) (.bool true) (.pointer (some ⟨g, 0, none⟩))) ?_ ?_
  rotate_left 1
  · refine startT (S := Below W5.heap.size W5) (ts := [13, 14, 15, 16, 17]) (by kernel_rfl) ?_
    have hS : Below W5.heap.size W5 W5.drew := (Below.refl _ _).drew
    refine takeT (i := 1) (v := ?_) rfl (by kernel_rfl) (by kernel_rfl) (fun _ _ _ _ _ h => h) rfl hS ?_ ?_
    rotate_left 1
    focus (intro W hW; obtain ⟨hcW, hfW⟩ := bcell hW; (go_simp <;> with_reducible rfl))
    simp only [Act.put, List.setIfInBounds_toArray, List.set_cons_zero, List.set_cons_succ]
    refine takeT (i := 2) (v := ?_) rfl (by kernel_rfl) (by kernel_rfl) (fun _ _ _ _ _ h => h) rfl hS ?_ ?_
    rotate_left 1
    focus (intro W hW; obtain ⟨hcW, hfW⟩ := bcell hW; (go_simp <;> with_reducible rfl))
    simp only [Act.put, List.setIfInBounds_toArray, List.set_cons_zero, List.set_cons_succ]
    refine takeT (i := 5) (v := ?_) rfl (by kernel_rfl) (by kernel_rfl) (fun _ _ _ _ _ h => h) rfl hS ?_ ?_
    rotate_left 1
    focus (intro W hW; obtain ⟨hcW, hfW⟩ := bcell hW; (go_simp <;> with_reducible rfl))
    simp only [Act.put, List.setIfInBounds_toArray, List.set_cons_zero, List.set_cons_succ]
    refine takeT (i := 6) (v := ?_) rfl (by kernel_rfl) (by kernel_rfl) (fun _ _ _ _ _ h => h) rfl hS ?_ ?_
    rotate_left 1
    focus (intro W hW; obtain ⟨hcW, hfW⟩ := bcell hW; (go_simp <;> with_reducible rfl))
    simp only [Act.put, List.setIfInBounds_toArray, List.set_cons_zero, List.set_cons_succ]
    refine takeT (i := 9) (v := ?_) rfl (by kernel_rfl) (by kernel_rfl) (fun _ _ _ _ _ h => h) rfl hS ?_ ?_
    rotate_left 1
    focus (intro W hW; obtain ⟨hcW, hfW⟩ := bcell hW; (go_simp <;> with_reducible rfl))
    simp only [Act.put, List.setIfInBounds_toArray, List.set_cons_zero, List.set_cons_succ]
    refine takeT (i := 10) (v := ?_) rfl (by kernel_rfl) (by kernel_rfl) (fun _ _ _ _ _ h => h) rfl hS ?_ ?_
    rotate_left 1
    focus (intro W hW; obtain ⟨hcW, hfW⟩ := bcell hW; (go_simp <;> with_reducible rfl))
    simp only [Act.put, List.setIfInBounds_toArray, List.set_cons_zero, List.set_cons_succ]
    refine chainsT vnext vL vrank (FV m B1 B2 B3 d1 d2 d3 W5.heap.size g (.agg #[.slice A1 x.words.length c1, .slice A2 x.counts.length c2, .slice A3 x.uses.length c3, .int .u8 x.back]) (.agg #[.int .u8 wa, .int .u8 wb]) (.int .i32 n) (.pointer (some ⟨w.heap.size, 0, none⟩)) (.pointer (some ⟨w.heap.size + 1, 0, none⟩)) (.bool false) (.bool true) (.pointer (some ⟨g, 0, none⟩))) (2, 2, 2, 1) 5 (by kernel_rfl) (fun _ _ _ _ _ h => h) ?_ ?_ rfl ?_ 7 (0, 0, 0, 0) _ _ rfl ⟨⟨by decide, fun h => by cases h⟩, ⟨rfl, rfl, by simp⟩, .inl rfl, .inl rfl, .inl rfl⟩ hS
    · rintro ⟨s0, s1, s2, s3⟩ a w ⟨⟨hvs, ht⟩, hsl, c0, c1, c2⟩ hS
      rcases vall_at (by kernel_rfl) hvs with h | ⟨_, h1, h2, h3⟩ | ⟨⟨h1, h2⟩, h3⟩
      · exact .inl h
      · exact .inr (.inl ⟨h1, h2, h3⟩)
      · simp only at h1 h2
        subst h1
        subst h2
        have e8 := hsl.at_ (k := 8) (v := .pointer (some ⟨g, 0, none⟩)) (by simp)
        refine .inr (.inr ⟨12, _, .pointer (some ⟨g, 0, none⟩), (2, s1, s2, 1), ⟨rfl, h3, rfl, ?_⟩, ⟨⟨?_, fun _ => ?_⟩, ?_, ?_, ?_, ?_⟩, ?_, ?_⟩)
        · intro W hW; (go_simp <;> with_reducible rfl)
        · have hv4 : VS4 2 s1 s2 0 := hvs; show VS4 2 s1 s2 1; unfold VS4 at hv4 ⊢; omega
        · exact put_self hsl 30 _ (by decide)
        · exact hsl.put 30 _ (by simp)
        · exact c0.keep _ (by decide) (by decide) (fun _ _ _ h => h)
        · exact c1.keep _ (by decide) (by decide) (fun _ _ _ h => h)
        · exact c2.keep _ (by decide) (by decide) (fun _ _ _ h => h)
        · rfl
        · rfl
    · rintro ⟨s0, s1, s2, s3⟩ p a w hp ⟨⟨hvs, ht⟩, hsl, c0, c1, c2⟩ hS
      simp only [vnext, List.mem_append] at hp
      rcases hp with (hp | hp) | hp
      · by_cases e : s0 = 0
        · rw [if_pos e] at hp
          obtain rfl := List.mem_singleton.1 hp
          subst e
          refine op_of rfl rfl (fun K hK => ?_)
          go_simp
          exact hK.out _ _ ⟨hS.alloc hS.size _, ⟨⟨by have hv4 : VS4 0 s1 s2 s3 := hvs; show VS4 1 s1 s2 s3; unfold VS4 at hv4 ⊢; omega, fun h => (put_other (by decide)).trans (ht h)⟩, hsl.put 18 (.slice (some ⟨w.heap.size, 0, none⟩) 0 0) (by simp), .inr (.inl ⟨rfl, _, put_self hsl 18 _ (by decide), own_empty w _ _ _ hS.size⟩), c1.keep (.slice (some ⟨w.heap.size, 0, none⟩) 0 0) (by decide) (by decide) (fun _ _ _ h => h.alloc _), c2.keep (.slice (some ⟨w.heap.size, 0, none⟩) 0 0) (by decide) (by decide) (fun _ _ _ h => h.alloc _)⟩⟩
        · rw [if_neg e] at hp
          by_cases e1 : s0 = 1
          · rw [if_pos e1] at hp
            obtain rfl := List.mem_singleton.1 hp
            subst e1
            rcases c0 with h | ⟨_, v, hx, hown⟩ | ⟨h, _⟩
            · cases h
            · refine op_of rfl rfl (fun K hK => ?_)
              refine wp_appS (enc := (fun x => [Value.string x])) (R := RStr) (.tmp 18) (.tmp 20) 30 rfl W5.heap.size 9 is _ 1 16 Try.underlying30 his his0 his1 his2 rfl (by decide) v 0 [] hx hown B1 d1 m.ws (hsl.at_ (by simp)) (HMB5.out.r.below hS).h1 (fun _ _ _ h => h) (fun _ => rfl) (fun u hu => by obtain ⟨x, _, hx⟩ := List.mem_flatMap.1 hu; simp at hx; rcases hx with rfl <;> rfl) (by omega) (by decide) hS.size ?_
              intro v' w' hown' hb' ha'
              exact hK.out _ _ ⟨hS.trans (hb'.mono (Nat.le_refl _)), ⟨⟨by have hv4 : VS4 1 s1 s2 s3 := hvs; show VS4 2 s1 s2 s3; unfold VS4 at hv4 ⊢; omega, fun h => (put_other (by decide)).trans (ht h)⟩, hsl.put 21 v' (by simp), .inr (.inr ⟨rfl, _, put_self hsl 21 _ (by decide), by simpa using hown'⟩), c1.keep v' (by decide) (by decide) (fun _ _ _ h => own_apps h hown (by decide) ha'), c2.keep v' (by decide) (by decide) (fun _ _ _ h => own_apps h hown (by decide) ha')⟩⟩
            · cases h
          · rw [if_neg e1] at hp; cases hp
      · by_cases e : s1 = 0
        · rw [if_pos e] at hp
          obtain rfl := List.mem_singleton.1 hp
          subst e
          refine op_of rfl rfl (fun K hK => ?_)
          go_simp
          exact hK.out _ _ ⟨hS.alloc hS.size _, ⟨⟨by have hv4 : VS4 s0 0 s2 s3 := hvs; show VS4 s0 1 s2 s3; unfold VS4 at hv4 ⊢; omega, fun h => (put_other (by decide)).trans (ht h)⟩, hsl.put 22 (.slice (some ⟨w.heap.size, 0, none⟩) 0 0) (by simp), c0.keep (.slice (some ⟨w.heap.size, 0, none⟩) 0 0) (by decide) (by decide) (fun _ _ _ h => h.alloc _), .inr (.inl ⟨rfl, _, put_self hsl 22 _ (by decide), own_empty w _ _ _ hS.size⟩), c2.keep (.slice (some ⟨w.heap.size, 0, none⟩) 0 0) (by decide) (by decide) (fun _ _ _ h => h.alloc _)⟩⟩
        · rw [if_neg e] at hp
          by_cases e1 : s1 = 1 ∧ s3 = 1
          · rw [if_pos e1] at hp
            obtain rfl := List.mem_singleton.1 hp
            obtain ⟨rfl, rfl⟩ := e1
            rcases c1 with h | ⟨_, v, hx, hown⟩ | ⟨h, _⟩
            · cases h
            · refine op_of rfl rfl (fun K hK => ?_)
              refine wp_appS (enc := (fun x => [Value.int .i64 x])) (R := RInt) (.tmp 22) (.tmp 24) 31 rfl W5.heap.size 3 ii _ 1 8 Try.underlying31 hii hii0 hii1 hii2 rfl (by decide) v 0 [] hx hown B2 d2 m.cs (hsl.at_ (by simp)) (HMB5.out.r.below hS).h2 (fun _ _ _ h => h) (fun _ => rfl) (fun u hu => by obtain ⟨x, _, hx⟩ := List.mem_flatMap.1 hu; simp at hx; rcases hx with rfl <;> rfl) (by omega) (by decide) hS.size ?_
              intro v' w' hown' hb' ha'
              exact hK.out _ _ ⟨hS.trans (hb'.mono (Nat.le_refl _)), ⟨⟨by have hv4 : VS4 s0 1 s2 1 := hvs; show VS4 s0 2 s2 1; unfold VS4 at hv4 ⊢; omega, fun h => (put_other (by decide)).trans (ht h)⟩, hsl.put 25 v' (by simp), c0.keep v' (by decide) (by decide) (fun _ _ _ h => own_apps h hown (by decide) ha'), .inr (.inr ⟨rfl, _, put_self hsl 25 _ (by decide), by simpa using hown'⟩), c2.keep v' (by decide) (by decide) (fun _ _ _ h => own_apps h hown (by decide) ha')⟩⟩
            · cases h
          · rw [if_neg e1] at hp; cases hp
      · by_cases e : s2 = 0
        · rw [if_pos e] at hp
          obtain rfl := List.mem_singleton.1 hp
          subst e
          refine op_of rfl rfl (fun K hK => ?_)
          go_simp
          exact hK.out _ _ ⟨hS.alloc hS.size _, ⟨⟨by have hv4 : VS4 s0 s1 0 s3 := hvs; show VS4 s0 s1 1 s3; unfold VS4 at hv4 ⊢; omega, fun h => (put_other (by decide)).trans (ht h)⟩, hsl.put 26 (.slice (some ⟨w.heap.size, 0, none⟩) 0 0) (by simp), c0.keep (.slice (some ⟨w.heap.size, 0, none⟩) 0 0) (by decide) (by decide) (fun _ _ _ h => h.alloc _), c1.keep (.slice (some ⟨w.heap.size, 0, none⟩) 0 0) (by decide) (by decide) (fun _ _ _ h => h.alloc _), .inr (.inl ⟨rfl, _, put_self hsl 26 _ (by decide), own_empty w _ _ _ hS.size⟩)⟩⟩
        · rw [if_neg e] at hp
          by_cases e1 : s2 = 1 ∧ s1 = 2
          · rw [if_pos e1] at hp
            obtain rfl := List.mem_singleton.1 hp
            obtain ⟨rfl, rfl⟩ := e1
            rcases c2 with h | ⟨_, v, hx, hown⟩ | ⟨h, _⟩
            · cases h
            · refine op_of rfl rfl (fun K hK => ?_)
              refine wp_appS (enc := encP) (R := RPr) (.tmp 26) (.tmp 28) 32 rfl W5.heap.size 50 ip _ 3 24 Try.underlying32 hip hip0 hip1 hip2 rfl (by decide) v 0 [] hx hown B3 d3 m.ps (hsl.at_ (by simp)) (HMB5.out.r.below hS).h3 (fun _ _ _ h => h) (fun _ => rfl) (fun u hu => by obtain ⟨x, _, hx⟩ := List.mem_flatMap.1 hu; simp [encP] at hx; rcases hx with rfl | rfl | rfl <;> rfl) (by omega) (by decide) hS.size ?_
              intro v' w' hown' hb' ha'
              exact hK.out _ _ ⟨hS.trans (hb'.mono (Nat.le_refl _)), ⟨⟨by have hv4 : VS4 s0 2 1 s3 := hvs; show VS4 s0 2 2 s3; unfold VS4 at hv4 ⊢; omega, fun h => (put_other (by decide)).trans (ht h)⟩, hsl.put 29 v' (by simp), c0.keep v' (by decide) (by decide) (fun _ _ _ h => own_apps h hown (by decide) ha'), c1.keep v' (by decide) (by decide) (fun _ _ _ h => own_apps h hown (by decide) ha'), .inr (.inr ⟨rfl, _, put_self hsl 29 _ (by decide), by simpa using hown'⟩)⟩⟩
            · cases h
          · rw [if_neg e1] at hp; cases hp
    · rintro a u ⟨⟨_, ht⟩, hsl, ch0, ch1, ch2⟩ hS
      skip
      obtain ⟨v1, y1, o1⟩ : ∃ v, a.tmps.getD 21 undef = v ∧ u.ownsRow W5.heap.size 9 1 v m.ws.length (m.ws.flatMap (fun x => [Value.string x])) := by rcases ch0 with h | ⟨h, _⟩ | ⟨_, v, h1, h2⟩ <;> first | (cases h; done) | exact ⟨v, h1, h2⟩
      obtain ⟨v2, y2, o2⟩ : ∃ v, a.tmps.getD 25 undef = v ∧ u.ownsRow W5.heap.size 3 1 v m.cs.length (m.cs.flatMap (fun x => [Value.int .i64 x])) := by rcases ch1 with h | ⟨h, _⟩ | ⟨_, v, h1, h2⟩ <;> first | (cases h; done) | exact ⟨v, h1, h2⟩
      obtain ⟨v3, y3, o3⟩ : ∃ v, a.tmps.getD 29 undef = v ∧ u.ownsRow W5.heap.size 50 3 v m.ps.length (m.ps.flatMap encP) := by rcases ch2 with h | ⟨h, _⟩ | ⟨_, v, h1, h2⟩ <;> first | (cases h; done) | exact ⟨v, h1, h2⟩
      obtain ⟨g1, k1, _, rfl, hg1, _⟩ := blk_of_own o1 (by omega)
      obtain ⟨g2, k2, _, rfl, hg2, _⟩ := blk_of_own o2 (by have := HCL.out; omega)
      obtain ⟨C3, k3, rfl, _, _, _⟩ := own_slr (R := RPr) o3 (fun _ => rfl) (fun _ => rfl) rfl
      have hs1 : Slots 174 a ((21, .slice (some ⟨g1, 0, none⟩) m.ws.length k1) :: (25, .slice (some ⟨g2, 0, none⟩) m.cs.length k2) :: (29, .slice C3 m.ps.length k3) :: (30, .pointer (some ⟨g, 0, none⟩)) :: [(0, .agg #[.slice A1 x.words.length c1, .slice A2 x.counts.length c2, .slice A3 x.uses.length c3, .int .u8 x.back]), (1, .agg #[.int .u8 wa, .int .u8 wb]), (2, .int .i32 n), (3, .pointer (some ⟨w.heap.size, 0, none⟩)), (4, .pointer (some ⟨w.heap.size + 1, 0, none⟩)), (6, .bool false), (7, .bool true), (8, .pointer (some ⟨g, 0, none⟩)), (20, .slice B1 m.ws.length d1), (24, .slice B2 m.cs.length d2), (28, .slice B3 m.ps.length d3)]) := ⟨hsl.1, hsl.2.1, fun kv hkv => by rcases List.mem_cons.1 hkv with rfl | hkv; exact y1; rcases List.mem_cons.1 hkv with rfl | hkv; exact y2; rcases List.mem_cons.1 hkv with rfl | hkv; exact y3; rcases List.mem_cons.1 hkv with rfl | hkv; exact ht rfl; exact hsl.2.2 kv hkv⟩
      have hk0 := HMB5.out.b.below hS HMB5.out.b.lt
      have ka0 := HKA5.out.below hS HKA5.out.lt
      clear hsl ch0 ch1 ch2 y1 y2 y3
      refine wpAnyT_of_ord (by kernel_rfl) (fun _ _ _ _ _ h => h) [(13, true), (14, true), (15, true), (16, true), (17, true)] 5 _ a u (by decide) (by kernel_rfl) ?_
      have hs2 := hs1
      clear hs1
      have ed := hs2.at_ (k := 30) (v := .pointer (some ⟨g, 0, none⟩)) (by simp)
      have es := hs2.at_ (k := 21) (v := (.slice (some ⟨g1, 0, none⟩) m.ws.length k1)) (by simp)
      have qc := hk0.cell 0
      have qf := hk0.frozen 0
      refine ordT_call rfl rfl (fun K hK => ?_)
      go_simp
      refine hK.out _ _ (fun h => by cases h) ?_
      clear hK K
      have hk1 := hk0.set_ 0 (.slice (some ⟨g1, 0, none⟩) m.ws.length k1)
      have ka1 := ka0.far (p := ⟨g, 0, none⟩) (by show w.heap.size + 1 ≠ g; omega) (.slice (some ⟨g1, 0, none⟩) m.ws.length k1)
      have o1 := own_set o1 (a := ⟨g, 0, none⟩) (fun e => by have := own_block_le o1 _ e; simp at this; omega) (.slice (some ⟨g1, 0, none⟩) m.ws.length k1)
      have o2 := own_set o2 (a := ⟨g, 0, none⟩) (fun e => by have := own_block_le o2 _ e; simp at this; omega) (.slice (some ⟨g1, 0, none⟩) m.ws.length k1)
      have o3 := own_set o3 (a := ⟨g, 0, none⟩) (fun e => by have := own_block_le o3 _ e; simp at this; omega) (.slice (some ⟨g1, 0, none⟩) m.ws.length k1)
      have hs1 := hs2
      clear hs2 ed es qc qf
      have e8 := hs1.at_ (k := 8) (v := .pointer (some ⟨g, 0, none⟩)) (by simp)
      refine ordT_call rfl rfl (fun K hK => ?_)
      go_simp
      refine hK.out _ _ (fun h => by cases h) ?_
      have hs2 := hs1.add 31 (.pointer (some ⟨g, 1, none⟩)) (by decide) (by simp)
      clear hK K
      show wpOrdT Try.prog _ _ _ _ _ (Act.put a (some 31) (.pointer (some ⟨g, 1, none⟩))) _
      generalize Act.put a (some 31) (.pointer (some ⟨g, 1, none⟩)) = a2 at hs2 ⊢
      clear hs1 e8
      have ed := hs2.at_ (k := 31) (v := .pointer (some ⟨g, 1, none⟩)) (by simp)
      have es := hs2.at_ (k := 25) (v := (.slice (some ⟨g2, 0, none⟩) m.cs.length k2)) (by simp)
      have qc := hk1.cell 1
      have qf := hk1.frozen 1
      refine ordT_call rfl rfl (fun K hK => ?_)
      go_simp
      refine hK.out _ _ (fun h => by cases h) ?_
      clear hK K
      have hk2 := hk1.set_ 1 (.slice (some ⟨g2, 0, none⟩) m.cs.length k2)
      have ka2 := ka1.far (p := ⟨g, 1, none⟩) (by show w.heap.size + 1 ≠ g; omega) (.slice (some ⟨g2, 0, none⟩) m.cs.length k2)
      have o1 := own_set o1 (a := ⟨g, 1, none⟩) (fun e => by have := own_block_le o1 _ e; simp at this; omega) (.slice (some ⟨g2, 0, none⟩) m.cs.length k2)
      have o2 := own_set o2 (a := ⟨g, 1, none⟩) (fun e => by have := own_block_le o2 _ e; simp at this; omega) (.slice (some ⟨g2, 0, none⟩) m.cs.length k2)
      have o3 := own_set o3 (a := ⟨g, 1, none⟩) (fun e => by have := own_block_le o3 _ e; simp at this; omega) (.slice (some ⟨g2, 0, none⟩) m.cs.length k2)
      have hs1 := hs2
      clear hs2 ed es qc qf
      have e8 := hs1.at_ (k := 8) (v := .pointer (some ⟨g, 0, none⟩)) (by simp)
      refine ordT_call rfl rfl (fun K hK => ?_)
      go_simp
      refine hK.out _ _ (fun h => by cases h) ?_
      have hs2 := hs1.add 32 (.pointer (some ⟨g, 2, none⟩)) (by decide) (by simp)
      clear hK K
      show wpOrdT Try.prog _ _ _ _ _ (Act.put a2 (some 32) (.pointer (some ⟨g, 2, none⟩))) _
      generalize Act.put a2 (some 32) (.pointer (some ⟨g, 2, none⟩)) = a3 at hs2 ⊢
      clear hs1 e8
      have ed := hs2.at_ (k := 32) (v := .pointer (some ⟨g, 2, none⟩)) (by simp)
      have es := hs2.at_ (k := 29) (v := (.slice C3 m.ps.length k3)) (by simp)
      have qc := hk2.cell 2
      have qf := hk2.frozen 2
      refine ordT_call rfl rfl (fun K hK => ?_)
      go_simp
      refine hK.out _ _ (fun h => by cases h) ?_
      clear hK K
      have hk3 := hk2.set_ 2 (.slice C3 m.ps.length k3)
      have ka3 := ka2.far (p := ⟨g, 2, none⟩) (by show w.heap.size + 1 ≠ g; omega) (.slice C3 m.ps.length k3)
      have o1 := own_set o1 (a := ⟨g, 2, none⟩) (fun e => by have := own_block_le o1 _ e; simp at this; omega) (.slice C3 m.ps.length k3)
      have o2 := own_set o2 (a := ⟨g, 2, none⟩) (fun e => by have := own_block_le o2 _ e; simp at this; omega) (.slice C3 m.ps.length k3)
      have o3 := own_set o3 (a := ⟨g, 2, none⟩) (fun e => by have := own_block_le o3 _ e; simp at this; omega) (.slice C3 m.ps.length k3)
      have hs1 := hs2
      clear hs2 ed es qc qf
      refine ordT_nil ?_
      obtain ⟨f, hf⟩ := LV_of (x0 := .agg #[.slice A1 x.words.length c1, .slice A2 x.counts.length c2, .slice A3 x.uses.length c3, .int .u8 x.back]) (x1 := .agg #[.int .u8 wa, .int .u8 wb]) (x2 := .int .i32 n) (x3 := .pointer (some ⟨w.heap.size, 0, none⟩)) (x4 := .pointer (some ⟨w.heap.size + 1, 0, none⟩)) (x6 := .bool false) (x7 := .bool true) (x8 := .pointer (some ⟨g, 0, none⟩)) hs1 (by simp) (by simp) (by simp) (by simp) (by simp) (by simp) (by simp) (by simp)
      exact ⟨f, g1, g2, _, k1, k2, hf, hk3, ka3, o1, o2, o3, (((hS.mono (by omega)).setCell (Nat.le_refl g) _).setCell (Nat.le_refl g) _).setCell (Nat.le_refl g) _⟩
  · rintro _ W6 ⟨f, g1, g2, v3, k1, k2, rfl, hk, hka, o1, o2, o3, hb6⟩
    obtain ⟨C3, k3, rfl, hk3, hm3, _⟩ := own_slr (R := RPr) o3 (fun _ => rfl) (fun _ => rfl) rfl
    clear q0 q1 q2 q3 hg
    have q0 := hk.cell 0
    have q1 := hk.cell 1
    have q2 := hk.cell 2
    have q3 := hk.cell 3
    have a0 := hka.cell 0; have a1 := hka.cell 1; have hkl := hk.lt; have hal := hka.lt
    have ht1 : wa.tmod (m.ws.length : Int) = wa % (m.ws.length : Int) := Int.tmod_eq_emod_of_nonneg hwa.1
    have hv1 : IntKind.i64.wrap wa = wa := IntWalk.i64_in _ (by omega)
    have hne : ¬ m.ws = [] := fun e => by rw [e] at hw2; simp at hw2
    have hmx : (1 : Int) ≤ max (m.ps.length : Int) 1 := by omega
    have hmn : ¬ (max (m.ps.length : Int) 1 = 0) := by omega
    have ht2 : wa.tmod (max (m.ps.length : Int) 1) = wa % (max (m.ps.length : Int) 1) := Int.tmod_eq_emod_of_nonneg hwa.1
    unfold LV
    go_wp2_with fail
    refine ord_below [(0, false), (1, false), (2, false), (3, false), (4, false), (5, false), (6, false), (7, false), (8, false), (9, false), (10, false), (11, false), (12, false), (13, false), (14, false), (15, false), (16, false)] (by kernel_rfl) (by kernel_rfl) (by kernel_rfl) (fun _ _ _ _ _ h => h) ?_
    intro W0 hS0
    repeat (first
      | (refine ord_skip rfl rfl ?_; simp only [Act.put, List.setIfInBounds_toArray, List.set_cons_zero, List.set_cons_succ])
      | (refine ord_cskip rfl rfl (by assumption) ?_; simp only [Act.put, List.setIfInBounds_toArray, List.set_cons_zero, List.set_cons_succ])
      | (refine ord_take (v := ?_) rfl rfl ?_ ?_
         rotate_left 1
         focus (intro W hW; obtain ⟨hcW, hfW⟩ := bcell hW; (go_simp <;> with_reducible rfl))
         simp only [Act.put, List.setIfInBounds_toArray, List.set_cons_zero, List.set_cons_succ])
      | (refine ord_call rfl rfl (fun K hK => ?_)
         go_simp
         first
           | (fail)))
    refine ord_nil ?_
    have hk := hk.below hS0 hk.lt
    have hka := hka.below hS0 hka.lt
    have o1 := own_below o1 hS0
    have o2 := own_below o2 hS0
    have o3 := own_below o3 hS0
    have HBA := Lib.hid ((HB.out.trans (hb5.mono HB.out.size)).trans ((hb6.trans (hS0.mono (by omega))).mono (by omega)))
    clear q0 q1 q2 q3 a0 a1 hkl hal hmx hmn ht1 ht2 hS0 hb6
    have hri := Int.emod_nonneg wa (show (m.ws.length : Int) ≠ 0 by omega)
    have hri2 := Int.emod_lt_of_pos wa (show 0 < (m.ws.length : Int) by omega)
    have hrk := Int.emod_nonneg wa (show max (m.ps.length : Int) 1 ≠ 0 by omega)
    have hrk2 := Int.emod_lt_of_pos wa (show 0 < max (m.ps.length : Int) 1 by omega)
    generalize wa % (m.ws.length : Int) = ii at *
    generalize wa % (max (m.ps.length : Int) 1) = kk at *
    obtain ⟨i, rfl⟩ := Int.eq_ofNat_of_zero_le hri
    obtain ⟨k, rfl⟩ := Int.eq_ofNat_of_zero_le hrk
    have hiw : i < m.ws.length := by omega
    have hcl : m.ws.length ≤ m.cs.length ∧ m.cs.length ≤ m.ws.length := by have := HCL.out; omega
    have hic : i < m.cs.length := by omega
    have q0 := hk.cell 0
    have q1 := hk.cell 1
    have q2 := hk.cell 2
    have q3 := hk.cell 3
    have a0 := hka.cell 0; have a1 := hka.cell 1; have hkl := hk.lt; have hal := hka.lt
    have hf0 := hk.frozen 0; have hf1 := hk.frozen 1; have hf2 := hk.frozen 2; have hf3 := hk.frozen 3
    have ht3 : wb.tmod 10 = wb % 10 := Int.tmod_eq_emod_of_nonneg hwb.1
    have hr10 : 0 ≤ wb % 10 ∧ wb % 10 < 10 := by omega
    have hw10 : IntKind.u8.wrap (wb % 10) = wb % 10 := by rw [IntKind.wrap_u8]; omega
    have hg1 : W5.heap.size ≤ g1 := own_block_le o1 g1 rfl
    have hg2 : W5.heap.size ≤ g2 := own_block_le o2 g2 rfl
    have hgw : g < W5.heap.size := HMB5.out.b.lt
    have hg1s : g1 < W0.heap.size := by obtain ⟨g1', _, _, e, _, hb, _⟩ := blk_of_own o1 (by omega); injection e with e; injection e with e; injection e with e; rw [e]; exact hb.lt
    have hg2s : g2 < W0.heap.size := by obtain ⟨g2', _, _, e, _, hb, _⟩ := blk_of_own o2 (by omega); injection e with e; injection e with e; injection e with e; rw [e]; exact hb.lt
    have HMs := Lib.hid HMB5.out.r.s
    have HMn := Lib.hid HMB5.out.r.n
    have hcase : wb % 10 = 0 ∨ wb % 10 = 1 ∨ wb % 10 = 2 ∨ wb % 10 = 3 ∨ wb % 10 = 4 ∨ wb % 10 = 5 ∨ 6 ≤ wb % 10 := by omega
    rcases hcase with h | h | h | h | h | h | h
    · skip
      have e0 : (wb % 10 == 0) = true := by simp; omega
      clear h
      obtain ⟨p2, _, pf, y, _, pc⟩ := own_seti o2 i hic n
      go_wp2_with fail
      have hk7 := hk.far (p := ⟨g2, i, none⟩) (by show g ≠ g2; omega) (.int .i64 n)
      have p1 := own_set o1 (a := ⟨g2, i, none⟩) (fun e => own_ne o1 o2 (by decide) g2 e rfl) (.int .i64 n)
      have p3 := own_set o3 (a := ⟨g2, i, none⟩) (fun e => own_ne o3 o2 (by decide) g2 e rfl) (.int .i64 n)
      have HBZ := Lib.hid (HBA.out.setCell (show w.heap.size ≤ (Addr.mk g2 i none).block by show w.heap.size ≤ g2; omega) (.int .i64 n))
      clear q0 q1 q2 q3 a0 a1 pf pc o1 o2 o3 hk hka hf0 hf1 hf2 hf3 HBA
      generalize W0.setCell ⟨g2, i, none⟩ (.int .i64 n) = Wz at *
      obtain ⟨hmor, _⟩ := mor_own (m := (Mo.mk m.ws (m.cs.set i n) m.ps m.back)) p1 (by simpa using p2) p3 hl1 (by simpa using hl2) hl3 HMs.out HMn.out
      have hmx : ∃ mx : Mo, mx = (Mo.mk m.ws (m.cs.set i n) m.ps m.back) := ⟨_, rfl⟩
      obtain ⟨mx, HMX⟩ := hmx
      obtain ⟨bv, HBV⟩ : ∃ bv, Hid (decide (MoOK mx) = bv) := ⟨_, rfl⟩
      rw [← HMX] at hmor
      have HMX := Lib.hid HMX
      have HV1 : Hid (∀ W2, Below Wz.heap.size Wz W2 → Calls Try.prog 19 #[.agg #[.slice (some ⟨g1, 0, none⟩) m.ws.length k1, .slice (some ⟨g2, 0, none⟩) m.cs.length k2, .slice C3 m.ps.length k3, .int .i64 m.back]] W2 fun e w' => e = .returned (.bool bv) ∧ Below W2.heap.size W2 w') := fun W2 h2 => by
        have h := valid_any mx (some ⟨g1, 0, none⟩) (some ⟨g2, 0, none⟩) C3 k1 k2 k3 W2 (hmor.below h2)
        rw [HBV.out, HMX.out] at h
        dsimp only at h
        rw [List.length_set] at h
        exact h
      have HV2 : Hid (∀ W2, Below Wz.heap.size Wz W2 → Calls Try.prog 20 #[.agg #[.slice (some ⟨g1, 0, none⟩) m.ws.length k1, .slice (some ⟨g2, 0, none⟩) m.cs.length k2, .slice C3 m.ps.length k3, .int .i64 m.back]] W2 fun e w' => e = .returned (.bool bv) ∧ Below W2.heap.size W2 w') := fun W2 h2 => by
        have h := refvalid_any mx (some ⟨g1, 0, none⟩) (some ⟨g2, 0, none⟩) C3 k1 k2 k3 W2 (hmor.below h2)
        rw [HBV.out, HMX.out] at h
        dsimp only at h
        rw [List.length_set] at h
        exact h
      clear hmor HMX HBV
      have hbe : (bv == bv) = true := by simp
      have q0 := hk7.cell 0
      have q1 := hk7.cell 1
      have q2 := hk7.cell 2
      have q3 := hk7.cell 3
      have hkl := hk7.lt
      refine ord_below [(0, false), (2, false), (1, true), (3, true), (4, false), (5, false), (6, false), (7, false), (8, false)] (by kernel_rfl) (by kernel_rfl) (by kernel_rfl) (fun _ _ _ _ _ h => h) ?_
      intro W0 hS0
      iterate 2 (first
        | (refine ord_skip rfl rfl ?_; simp only [Act.put, List.setIfInBounds_toArray, List.set_cons_zero, List.set_cons_succ])
        | (refine ord_take (v := ?_) rfl rfl ?_ ?_
           rotate_left 1
           focus (intro W hW; obtain ⟨hcW, hfW⟩ := bcell hW; (go_simp <;> with_reducible rfl))
           simp only [Act.put, List.setIfInBounds_toArray, List.set_cons_zero, List.set_cons_succ]))
      refine ord_call rfl rfl (fun K hK => ?_)
      go_simp
      go_at_call 19; refine (HV1.out _ hS0).mono ?_; rintro e w' ⟨rfl, hb'⟩; refine hK.out _ _ (hS0.trans (hb'.mono hS0.size)) (fun hS0 => ?_)
      skip
      refine ord_call rfl rfl (fun K hK => ?_)
      go_simp
      go_at_call 20; refine (HV2.out _ hS0).mono ?_; rintro e w' ⟨rfl, hb'⟩; refine hK.out _ _ (hS0.trans (hb'.mono hS0.size)) (fun hS0 => ?_)
      skip
      iterate 5 (first
        | (refine ord_skip rfl rfl ?_; simp only [Act.put, List.setIfInBounds_toArray, List.set_cons_zero, List.set_cons_succ])
        | (refine ord_take (v := ?_) rfl rfl ?_ ?_
           rotate_left 1
           focus (intro W hW; obtain ⟨hcW, hfW⟩ := bcell hW; (go_simp <;> with_reducible rfl))
           simp only [Act.put, List.setIfInBounds_toArray, List.set_cons_zero, List.set_cons_succ]))
      refine ord_nil ?_
      go_wp2_with fail
      go_ret
      exact ⟨rfl, HBZ.out.trans (hS0.mono HBZ.out.size)⟩
    · skip
      have e0 : (wb % 10 == 0) = false := by simp; omega
      have e1 : (wb % 10 == 1) = true := by simp; omega
      clear h
      have hii : (i : Int) < m.ws.length := by omega
      have hu : 0 ≤ IntKind.u32.wrap n ∧ IntKind.u32.wrap n ≤ 4294967295 := by rw [IntKind.wrap_u32]; omega
      obtain ⟨u, hud⟩ : ∃ u, IntKind.u32.wrap n = u := ⟨_, rfl⟩
      rw [hud] at hu
      have ht5 : u.tmod 5 = u % 5 := Int.tmod_eq_emod_of_nonneg hu.1
      have hr5 : 0 ≤ u % 5 ∧ u % 5 < 5 := by omega
      have hw5 : IntKind.u32.wrap (u % 5) = u % 5 := by rw [IntKind.wrap_u32]; omega
      obtain ⟨_, _, pfi, si, _, pci⟩ := own_sets o1 i hiw ByteArray.empty
      generalize u % 5 = z at *
      obtain ⟨r, rfl⟩ := Int.eq_ofNat_of_zero_le hr5.1
      have hsr : ∃ sr, (#[.string (ByteArray.mk #[]), .string (ByteArray.mk #[45]), .string (ByteArray.mk #[122]), .string (ByteArray.mk #[97, 97, 97, 97, 97, 97, 97, 97, 97, 97, 97, 97, 97, 97, 97, 97, 97, 97, 97, 97, 97]), .string (ByteArray.mk #[122, 122, 122, 122, 122, 122, 122, 122, 122, 122, 122, 122, 122, 122, 122, 122, 122, 122, 122, 122])] : Array Value)[r]? = some (.string sr) ∧ sr.size ≤ maxLen := by (have h5 : r = 0 ∨ r = 1 ∨ r = 2 ∨ r = 3 ∨ r = 4 := (by omega); rcases h5 with rfl | rfl | rfl | rfl | rfl <;> exact ⟨_, rfl, by decide⟩)
      obtain ⟨sr, hsr, hszr⟩ := hsr
      have hszr := Lib.hid hszr
      go_wp2_with fail
      refine ordT_below [10] [(0, false), (1, false), (2, false), (4, false), (5, false), (6, false), (3, true), (7, true), (8, true), (9, true), (10, true)] (by kernel_rfl) (by kernel_rfl) (by kernel_rfl) (fun _ _ _ _ _ h => h) ?_
      intro Wd hS0
      iterate 6 (first | (refine ordT_skip rfl rfl (by assumption) ?_; simp only [Act.put, List.setIfInBounds_toArray, List.set_cons_zero, List.set_cons_succ]) | (refine ordT_take (v := ?_) rfl rfl (by assumption) ?_ ?_; rotate_left 1; (focus (intro W hW; obtain ⟨hcW, hfW⟩ := bcell hW; (go_simp <;> (try with_reducible rfl)))); simp only [Act.put, List.setIfInBounds_toArray, List.set_cons_zero, List.set_cons_succ]))
      refine ordT_call rfl rfl (fun K hK => ?_)
      go_simp
      refine hK.out _ _ (fun _ => hS0.alloc hS0.size _) ?_
      clear hK K
      have HA := hS0.alloc hS0.size (.cells #[.string (ByteArray.mk #[]), .string (ByteArray.mk #[45]), .string (ByteArray.mk #[122]), .string (ByteArray.mk #[97, 97, 97, 97, 97, 97, 97, 97, 97, 97, 97, 97, 97, 97, 97, 97, 97, 97, 97, 97, 97]), .string (ByteArray.mk #[122, 122, 122, 122, 122, 122, 122, 122, 122, 122, 122, 122, 122, 122, 122, 122, 122, 122, 122, 122])] 9)
      have kS := Blk.new Wd 9 #[.string (ByteArray.mk #[]), .string (ByteArray.mk #[45]), .string (ByteArray.mk #[122]), .string (ByteArray.mk #[97, 97, 97, 97, 97, 97, 97, 97, 97, 97, 97, 97, 97, 97, 97, 97, 97, 97, 97, 97, 97]), .string (ByteArray.mk #[122, 122, 122, 122, 122, 122, 122, 122, 122, 122, 122, 122, 122, 122, 122, 122, 122, 122, 122, 122])]
      have hsz := hS0.size
      obtain ⟨Wa, hWa⟩ : ∃ Wa, Wd.alloc (.cells #[.string (ByteArray.mk #[]), .string (ByteArray.mk #[45]), .string (ByteArray.mk #[122]), .string (ByteArray.mk #[97, 97, 97, 97, 97, 97, 97, 97, 97, 97, 97, 97, 97, 97, 97, 97, 97, 97, 97, 97, 97]), .string (ByteArray.mk #[122, 122, 122, 122, 122, 122, 122, 122, 122, 122, 122, 122, 122, 122, 122, 122, 122, 122, 122, 122])] 9) = Wa := ⟨_, rfl⟩
      rw [hWa] at HA kS ⊢
      clear hWa
      have hqr := (kS.cell r).trans hsr
      have hfr := kS.frozen r
      clear hS0
      obtain ⟨hcA, hfA⟩ := bcell HA
      generalize Wd.heap.size = gs at *
      refine ordT_call rfl rfl (fun K hK => ?_)
      go_simp
      refine hK.out _ _ (fun _ => HA) ?_
      clear hK K
      refine ordT_call rfl rfl (fun K hK => ?_)
      go_simp
      refine hK.out _ _ (fun _ => HA) ?_
      clear hK K
      refine ordT_call rfl rfl (fun K hK => ?_)
      go_simp
      refine hK.out _ _ (fun _ => HA) ?_
      clear hK K
      refine ordT_call rfl rfl (fun K hK => ?_)
      go_simp
      refine hK.out _ _ (fun h => by cases h) ?_
      clear hK K
      refine ordT_nil ?_
      go_wp2_with fail
      have hk := hk.below HA hk.lt
      have o1 := own_below o1 HA
      have o2 := own_below o2 HA
      have o3 := own_below o3 HA
      have HBZ := HBA.out.trans (HA.mono HBA.out.size)
      have hk7 := hk.far (p := ⟨g1, i, none⟩) (show g ≠ g1 by omega) (.string sr)
      have p2 := own_set o2 (a := ⟨g1, i, none⟩) (fun e => own_ne o2 o1 (by decide) g1 e rfl) (.string sr)
      have p3 := own_set o3 (a := ⟨g1, i, none⟩) (fun e => own_ne o3 o1 (by decide) g1 e rfl) (.string sr)
      have p1 := (own_sets o1 i hiw sr).1
      have HBZ := Lib.hid (HBZ.setCell (show w.heap.size ≤ (Addr.mk g1 i none).block by show w.heap.size ≤ g1; omega) (.string sr))
      clear q0 q1 q2 q3 a0 a1 o1 o2 o3 hk hka hf0 hf1 hf2 hf3 HBA pfi pci hcA hfA HA kS hqr hfr hsr
      generalize Wa.setCell ⟨g1, i, none⟩ (.string sr) = Wz at *
      obtain ⟨hmor, _⟩ := mor_own (m := (Mo.mk (m.ws.set i sr) m.cs m.ps m.back)) (by simpa using p1) p2 p3 (by simpa using hl1) hl2 hl3 (set_sizes HMs.out hszr.out) HMn.out
      have hmx : ∃ mx : Mo, mx = (Mo.mk (m.ws.set i sr) m.cs m.ps m.back) := ⟨_, rfl⟩
      obtain ⟨mx, HMX⟩ := hmx
      obtain ⟨bv, HBV⟩ : ∃ bv, Hid (decide (MoOK mx) = bv) := ⟨_, rfl⟩
      rw [← HMX] at hmor
      have HMX := Lib.hid HMX
      have HV1 : Hid (∀ W2, Below Wz.heap.size Wz W2 → Calls Try.prog 19 #[.agg #[.slice (some ⟨g1, 0, none⟩) m.ws.length k1, .slice (some ⟨g2, 0, none⟩) m.cs.length k2, .slice C3 m.ps.length k3, .int .i64 m.back]] W2 fun e w' => e = .returned (.bool bv) ∧ Below W2.heap.size W2 w') := fun W2 h2 => by
        have h := valid_any mx (some ⟨g1, 0, none⟩) (some ⟨g2, 0, none⟩) C3 k1 k2 k3 W2 (hmor.below h2)
        rw [HBV.out, HMX.out] at h
        dsimp only at h
        rw [List.length_set] at h
        exact h
      have HV2 : Hid (∀ W2, Below Wz.heap.size Wz W2 → Calls Try.prog 20 #[.agg #[.slice (some ⟨g1, 0, none⟩) m.ws.length k1, .slice (some ⟨g2, 0, none⟩) m.cs.length k2, .slice C3 m.ps.length k3, .int .i64 m.back]] W2 fun e w' => e = .returned (.bool bv) ∧ Below W2.heap.size W2 w') := fun W2 h2 => by
        have h := refvalid_any mx (some ⟨g1, 0, none⟩) (some ⟨g2, 0, none⟩) C3 k1 k2 k3 W2 (hmor.below h2)
        rw [HBV.out, HMX.out] at h
        dsimp only at h
        rw [List.length_set] at h
        exact h
      clear hmor HMX HBV
      have hbe : (bv == bv) = true := by simp
      have q0 := hk7.cell 0
      have q1 := hk7.cell 1
      have q2 := hk7.cell 2
      have q3 := hk7.cell 3
      have hkl := hk7.lt
      refine ord_below [(0, false), (2, false), (1, true), (3, true), (4, false), (5, false), (6, false), (7, false), (8, false)] (by kernel_rfl) (by kernel_rfl) (by kernel_rfl) (fun _ _ _ _ _ h => h) ?_
      intro W0 hS0
      iterate 2 (first
        | (refine ord_skip rfl rfl ?_; simp only [Act.put, List.setIfInBounds_toArray, List.set_cons_zero, List.set_cons_succ])
        | (refine ord_take (v := ?_) rfl rfl ?_ ?_
           rotate_left 1
           focus (intro W hW; obtain ⟨hcW, hfW⟩ := bcell hW; (go_simp <;> with_reducible rfl))
           simp only [Act.put, List.setIfInBounds_toArray, List.set_cons_zero, List.set_cons_succ]))
      refine ord_call rfl rfl (fun K hK => ?_)
      go_simp
      go_at_call 19; refine (HV1.out _ hS0).mono ?_; rintro e w' ⟨rfl, hb'⟩; refine hK.out _ _ (hS0.trans (hb'.mono hS0.size)) (fun hS0 => ?_)
      skip
      refine ord_call rfl rfl (fun K hK => ?_)
      go_simp
      go_at_call 20; refine (HV2.out _ hS0).mono ?_; rintro e w' ⟨rfl, hb'⟩; refine hK.out _ _ (hS0.trans (hb'.mono hS0.size)) (fun hS0 => ?_)
      skip
      iterate 5 (first
        | (refine ord_skip rfl rfl ?_; simp only [Act.put, List.setIfInBounds_toArray, List.set_cons_zero, List.set_cons_succ])
        | (refine ord_take (v := ?_) rfl rfl ?_ ?_
           rotate_left 1
           focus (intro W hW; obtain ⟨hcW, hfW⟩ := bcell hW; (go_simp <;> with_reducible rfl))
           simp only [Act.put, List.setIfInBounds_toArray, List.set_cons_zero, List.set_cons_succ]))
      refine ord_nil ?_
      go_wp2_with fail
      go_ret
      exact ⟨rfl, HBZ.out.trans (hS0.mono HBZ.out.size)⟩
    · skip
      have e0 : (wb % 10 == 0) = false := by simp; omega
      have e1 : (wb % 10 == 1) = false := by simp; omega
      have e2 : (wb % 10 == 2) = true := by simp; omega
      clear h
      obtain ⟨A2, cp2, hv2, hkc, hkm, _⟩ := own_ints (xs := m.cs) (by rw [flatMap_one] at o2; exact o2) rfl
      injection hv2 with e4 _ e5
      subst e4
      subst e5
      have hkc2 : ¬ k2 = 1 := by omega
      go_wp2_with fail
      have hk7 : Blk _ g 34 #[.slice (some ⟨g1, 0, none⟩) m.ws.length k1, .slice (some ⟨g2, 1, none⟩) (m.cs.length - 1) (k2 - 1), .slice C3 m.ps.length k3, .int .i64 m.back] := hk.set_ 1 (.slice (some ⟨g2, 1, none⟩) (m.cs.length - 1) (k2 - 1))
      have p1 := own_set o1 (a := ⟨g, 1, none⟩) (fun e => by have := own_block_le o1 _ e; simp at this; omega) (.slice (some ⟨g2, 1, none⟩) (m.cs.length - 1) (k2 - 1))
      have p2 := own_set o2 (a := ⟨g, 1, none⟩) (fun e => by have := own_block_le o2 _ e; simp at this; omega) (.slice (some ⟨g2, 1, none⟩) (m.cs.length - 1) (k2 - 1))
      have p3 := own_set o3 (a := ⟨g, 1, none⟩) (fun e => by have := own_block_le o3 _ e; simp at this; omega) (.slice (some ⟨g2, 1, none⟩) (m.cs.length - 1) (k2 - 1))
      have HBZ := Lib.hid (HBA.out.setCell (show w.heap.size ≤ (Addr.mk g 1 none).block by show w.heap.size ≤ g; omega) (.slice (some ⟨g2, 1, none⟩) (m.cs.length - 1) (k2 - 1)))
      clear q0 q1 q2 q3 a0 a1 o1 o2 o3 hk hka hf0 hf1 hf2 hf3 HBA hkc2
      generalize W0.setCell ⟨g, 1, none⟩ (.slice (some ⟨g2, 1, none⟩) (m.cs.length - 1) (k2 - 1)) = Wz at *
      obtain ⟨hm0, _⟩ := mor_own (m := Mo.mk m.ws m.cs m.ps m.back) p1 p2 p3 hl1 hl2 hl3 HMs.out HMn.out
      have hmor : MoR Wz (Mo.mk m.ws m.cs.tail m.ps m.back) (some ⟨g1, 0, none⟩) (some ⟨g2, 1, none⟩) C3 := ⟨hm0.h1, by have h := hm0.h2.drop 1; rw [List.drop_one] at h; simpa [add_mk] using h, hm0.h3, hl1, by simp only [List.length_tail]; omega, hl3, HMs.out, HMn.out⟩
      have hmx : ∃ mx : Mo, mx = (Mo.mk m.ws m.cs.tail m.ps m.back) := ⟨_, rfl⟩
      obtain ⟨mx, HMX⟩ := hmx
      obtain ⟨bv, HBV⟩ : ∃ bv, Hid (decide (MoOK mx) = bv) := ⟨_, rfl⟩
      rw [← HMX] at hmor
      have HMX := Lib.hid HMX
      have HV1 : Hid (∀ W2, Below Wz.heap.size Wz W2 → Calls Try.prog 19 #[.agg #[.slice (some ⟨g1, 0, none⟩) m.ws.length k1, .slice (some ⟨g2, 1, none⟩) (m.cs.length - 1) (k2 - 1), .slice C3 m.ps.length k3, .int .i64 m.back]] W2 fun e w' => e = .returned (.bool bv) ∧ Below W2.heap.size W2 w') := fun W2 h2 => by
        have h := valid_any mx (some ⟨g1, 0, none⟩) (some ⟨g2, 1, none⟩) C3 k1 (k2 - 1) k3 W2 (hmor.below h2)
        rw [HBV.out, HMX.out] at h
        dsimp only at h
        rw [List.length_tail] at h
        exact h
      have HV2 : Hid (∀ W2, Below Wz.heap.size Wz W2 → Calls Try.prog 20 #[.agg #[.slice (some ⟨g1, 0, none⟩) m.ws.length k1, .slice (some ⟨g2, 1, none⟩) (m.cs.length - 1) (k2 - 1), .slice C3 m.ps.length k3, .int .i64 m.back]] W2 fun e w' => e = .returned (.bool bv) ∧ Below W2.heap.size W2 w') := fun W2 h2 => by
        have h := refvalid_any mx (some ⟨g1, 0, none⟩) (some ⟨g2, 1, none⟩) C3 k1 (k2 - 1) k3 W2 (hmor.below h2)
        rw [HBV.out, HMX.out] at h
        dsimp only at h
        rw [List.length_tail] at h
        exact h
      clear hmor HMX HBV
      have hbe : (bv == bv) = true := by simp
      have q0 := hk7.cell 0
      have q1 := hk7.cell 1
      have q2 := hk7.cell 2
      have q3 := hk7.cell 3
      have hkl := hk7.lt
      refine ord_below [(0, false), (2, false), (1, true), (3, true), (4, false), (5, false), (6, false), (7, false), (8, false)] (by kernel_rfl) (by kernel_rfl) (by kernel_rfl) (fun _ _ _ _ _ h => h) ?_
      intro W0 hS0
      iterate 2 (first
        | (refine ord_skip rfl rfl ?_; simp only [Act.put, List.setIfInBounds_toArray, List.set_cons_zero, List.set_cons_succ])
        | (refine ord_take (v := ?_) rfl rfl ?_ ?_
           rotate_left 1
           focus (intro W hW; obtain ⟨hcW, hfW⟩ := bcell hW; (go_simp <;> with_reducible rfl))
           simp only [Act.put, List.setIfInBounds_toArray, List.set_cons_zero, List.set_cons_succ]))
      refine ord_call rfl rfl (fun K hK => ?_)
      go_simp
      go_at_call 19; refine (HV1.out _ hS0).mono ?_; rintro e w' ⟨rfl, hb'⟩; refine hK.out _ _ (hS0.trans (hb'.mono hS0.size)) (fun hS0 => ?_)
      skip
      refine ord_call rfl rfl (fun K hK => ?_)
      go_simp
      go_at_call 20; refine (HV2.out _ hS0).mono ?_; rintro e w' ⟨rfl, hb'⟩; refine hK.out _ _ (hS0.trans (hb'.mono hS0.size)) (fun hS0 => ?_)
      skip
      iterate 5 (first
        | (refine ord_skip rfl rfl ?_; simp only [Act.put, List.setIfInBounds_toArray, List.set_cons_zero, List.set_cons_succ])
        | (refine ord_take (v := ?_) rfl rfl ?_ ?_
           rotate_left 1
           focus (intro W hW; obtain ⟨hcW, hfW⟩ := bcell hW; (go_simp <;> with_reducible rfl))
           simp only [Act.put, List.setIfInBounds_toArray, List.set_cons_zero, List.set_cons_succ]))
      refine ord_nil ?_
      go_wp2_with fail
      go_ret
      exact ⟨rfl, HBZ.out.trans (hS0.mono HBZ.out.size)⟩
    · skip
      have e0 : (wb % 10 == 0) = false := by simp; omega
      have e1 : (wb % 10 == 1) = false := by simp; omega
      have e2 : (wb % 10 == 2) = false := by simp; omega
      have e3 : (wb % 10 == 3) = true := by simp; omega
      clear h
      go_wp2_with fail
      have hk7 : Blk _ g 34 #[.slice (some ⟨g1, 0, none⟩) m.ws.length k1, .slice (some ⟨g2, 0, none⟩) m.cs.length k2, .slice C3 m.ps.length k3, .int .i64 n] := hk.set_ 3 (.int .i64 n)
      have p1 := own_set o1 (a := ⟨g, 3, none⟩) (fun e => by have := own_block_le o1 _ e; simp at this; omega) (.int .i64 n)
      have p2 := own_set o2 (a := ⟨g, 3, none⟩) (fun e => by have := own_block_le o2 _ e; simp at this; omega) (.int .i64 n)
      have p3 := own_set o3 (a := ⟨g, 3, none⟩) (fun e => by have := own_block_le o3 _ e; simp at this; omega) (.int .i64 n)
      have HBZ := Lib.hid (HBA.out.setCell (show w.heap.size ≤ (Addr.mk g 3 none).block by show w.heap.size ≤ g; omega) (.int .i64 n))
      clear q0 q1 q2 q3 a0 a1 o1 o2 o3 hk hka hf0 hf1 hf2 hf3 HBA
      generalize W0.setCell ⟨g, 3, none⟩ (.int .i64 n) = Wz at *
      obtain ⟨hmor, _⟩ := mor_own (m := (Mo.mk m.ws m.cs m.ps n)) p1 p2 p3 hl1 hl2 hl3 HMs.out HMn.out
      have hmx : ∃ mx : Mo, mx = (Mo.mk m.ws m.cs m.ps n) := ⟨_, rfl⟩
      obtain ⟨mx, HMX⟩ := hmx
      obtain ⟨bv, HBV⟩ : ∃ bv, Hid (decide (MoOK mx) = bv) := ⟨_, rfl⟩
      rw [← HMX] at hmor
      have HMX := Lib.hid HMX
      have HV1 : Hid (∀ W2, Below Wz.heap.size Wz W2 → Calls Try.prog 19 #[.agg #[.slice (some ⟨g1, 0, none⟩) m.ws.length k1, .slice (some ⟨g2, 0, none⟩) m.cs.length k2, .slice C3 m.ps.length k3, .int .i64 n]] W2 fun e w' => e = .returned (.bool bv) ∧ Below W2.heap.size W2 w') := fun W2 h2 => by
        have h := valid_any mx (some ⟨g1, 0, none⟩) (some ⟨g2, 0, none⟩) C3 k1 k2 k3 W2 (hmor.below h2)
        rw [HBV.out, HMX.out] at h
        dsimp only at h
        exact h
      have HV2 : Hid (∀ W2, Below Wz.heap.size Wz W2 → Calls Try.prog 20 #[.agg #[.slice (some ⟨g1, 0, none⟩) m.ws.length k1, .slice (some ⟨g2, 0, none⟩) m.cs.length k2, .slice C3 m.ps.length k3, .int .i64 n]] W2 fun e w' => e = .returned (.bool bv) ∧ Below W2.heap.size W2 w') := fun W2 h2 => by
        have h := refvalid_any mx (some ⟨g1, 0, none⟩) (some ⟨g2, 0, none⟩) C3 k1 k2 k3 W2 (hmor.below h2)
        rw [HBV.out, HMX.out] at h
        dsimp only at h
        exact h
      clear hmor HMX HBV
      have hbe : (bv == bv) = true := by simp
      have q0 := hk7.cell 0
      have q1 := hk7.cell 1
      have q2 := hk7.cell 2
      have q3 := hk7.cell 3
      have hkl := hk7.lt
      refine ord_below [(0, false), (2, false), (1, true), (3, true), (4, false), (5, false), (6, false), (7, false), (8, false)] (by kernel_rfl) (by kernel_rfl) (by kernel_rfl) (fun _ _ _ _ _ h => h) ?_
      intro W0 hS0
      iterate 2 (first
        | (refine ord_skip rfl rfl ?_; simp only [Act.put, List.setIfInBounds_toArray, List.set_cons_zero, List.set_cons_succ])
        | (refine ord_take (v := ?_) rfl rfl ?_ ?_
           rotate_left 1
           focus (intro W hW; obtain ⟨hcW, hfW⟩ := bcell hW; (go_simp <;> with_reducible rfl))
           simp only [Act.put, List.setIfInBounds_toArray, List.set_cons_zero, List.set_cons_succ]))
      refine ord_call rfl rfl (fun K hK => ?_)
      go_simp
      go_at_call 19; refine (HV1.out _ hS0).mono ?_; rintro e w' ⟨rfl, hb'⟩; refine hK.out _ _ (hS0.trans (hb'.mono hS0.size)) (fun hS0 => ?_)
      skip
      refine ord_call rfl rfl (fun K hK => ?_)
      go_simp
      go_at_call 20; refine (HV2.out _ hS0).mono ?_; rintro e w' ⟨rfl, hb'⟩; refine hK.out _ _ (hS0.trans (hb'.mono hS0.size)) (fun hS0 => ?_)
      skip
      iterate 5 (first
        | (refine ord_skip rfl rfl ?_; simp only [Act.put, List.setIfInBounds_toArray, List.set_cons_zero, List.set_cons_succ])
        | (refine ord_take (v := ?_) rfl rfl ?_ ?_
           rotate_left 1
           focus (intro W hW; obtain ⟨hcW, hfW⟩ := bcell hW; (go_simp <;> with_reducible rfl))
           simp only [Act.put, List.setIfInBounds_toArray, List.set_cons_zero, List.set_cons_succ]))
      refine ord_nil ?_
      go_wp2_with fail
      go_ret
      exact ⟨rfl, HBZ.out.trans (hS0.mono HBZ.out.size)⟩
    · skip
      have e0 : (wb % 10 == 0) = false := by simp; omega
      have e1 : (wb % 10 == 1) = false := by simp; omega
      have e2 : (wb % 10 == 2) = false := by simp; omega
      have e3 : (wb % 10 == 3) = false := by simp; omega
      have e4 : (wb % 10 == 4) = true := by simp; omega
      clear h
      have h0w : 0 < m.ws.length := by omega
      have h0i : (0 : Int) < m.ws.length := by omega
      have hii : (i : Int) < m.ws.length := by omega
      obtain ⟨_, _, pf0, s0, hs0, pc0⟩ := own_sets o1 0 h0w ByteArray.empty
      obtain ⟨_, _, pfi, si, hsi, pci⟩ := own_sets o1 i hiw ByteArray.empty
      have hm0 := Lib.hid (HMs.out s0 (List.mem_of_getElem? hs0))
      have hmi := Lib.hid (HMs.out si (List.mem_of_getElem? hsi))
      clear hs0 hsi
      go_wp2_with fail
      have hgn2 : g ≠ g1 := by omega
      have han2 : w.heap.size + 1 ≠ g1 := by omega
      refine ordV_start (Below W0.heap.size W0) (Far g1 W0) [15, 17] [(0, none), (1, none), (2, none), (3, none), (4, none), (5, none), (6, none), (7, none), (8, none), (9, some false), (10, none), (11, none), (12, none), (13, some false), (14, none), (15, some true), (16, none), (17, some true)] (by kernel_rfl) (by kernel_rfl) (by kernel_rfl) (fun _ _ _ _ _ h => h) (fun _ _ => rfl) ?_
      have HD : Below W0.heap.size W0 W0.drew := (Below.refl _ _).drew
      have hR0 : Far g1 W0 W0.drew := fun _ _ => rfl
      obtain ⟨hcD, hfD⟩ := bcell HD
      obtain ⟨Wd, hWd⟩ : ∃ Wd, W0.drew = Wd := ⟨_, rfl⟩
      rw [hWd] at HD hcD hfD hR0 ⊢
      clear hWd
      iterate 9 (refine ordV_takeR (v := ?_) rfl rfl ?_ ?_; rotate_left 1; (focus (intro W hW; have hcW := hW.cell; (go_simp <;> (try with_reducible rfl)))); simp only [Act.put, List.setIfInBounds_toArray, List.set_cons_zero, List.set_cons_succ])
      iterate 1 (refine ordV_takeS (v := ?_) rfl rfl HD ?_ ?_; rotate_left 1; (focus (intro W hW; obtain ⟨hcW, hfW⟩ := bcell hW; (go_simp <;> (try with_reducible rfl)))); simp only [Act.put, List.setIfInBounds_toArray, List.set_cons_zero, List.set_cons_succ])
      iterate 3 (refine ordV_takeR (v := ?_) rfl rfl ?_ ?_; rotate_left 1; (focus (intro W hW; have hcW := hW.cell; (go_simp <;> (try with_reducible rfl)))); simp only [Act.put, List.setIfInBounds_toArray, List.set_cons_zero, List.set_cons_succ])
      iterate 1 (refine ordV_takeS (v := ?_) rfl rfl HD ?_ ?_; rotate_left 1; (focus (intro W hW; obtain ⟨hcW, hfW⟩ := bcell hW; (go_simp <;> (try with_reducible rfl)))); simp only [Act.put, List.setIfInBounds_toArray, List.set_cons_zero, List.set_cons_succ])
      iterate 1 (refine ordV_takeR (v := ?_) rfl rfl ?_ ?_; rotate_left 1; (focus (intro W hW; have hcW := hW.cell; (go_simp <;> (try with_reducible rfl)))); simp only [Act.put, List.setIfInBounds_toArray, List.set_cons_zero, List.set_cons_succ])
      refine ordV_call rfl rfl (fun K hK => ?_)
      go_simp
      refine hK.out _ _ (hR0.set _ _) (fun _ h => by cases h) ?_
      iterate 1 (refine ordV_takeR (v := ?_) rfl rfl ?_ ?_; rotate_left 1; (focus (intro W hW; have hcW := hW.cell; (go_simp <;> (try with_reducible rfl)))); simp only [Act.put, List.setIfInBounds_toArray, List.set_cons_zero, List.set_cons_succ])
      refine ordV_call rfl rfl (fun K hK => ?_)
      obtain ⟨vx, hvx⟩ := cell?_setCell_some (w := Wd) (p := ⟨g1, 0, none⟩) (x := Value.string si) (q := ⟨g1, i, none⟩) (v := Value.string si) ((hcD g1 i hg1s).trans pci)
      go_simp
      refine hK.out _ _ ((hR0.set _ _).set _ _) (fun _ h => by cases h) ?_
      refine ordV_nil ?_
      go_wp2_with fail
      have hk := hk.below HD hk.lt
      have o1 := own_below o1 HD
      have o2 := own_below o2 HD
      have o3 := own_below o3 HD
      have HBZ := HBA.out.trans (HD.mono HBA.out.size)
      have hk6 := hk.far (p := ⟨g1, 0, none⟩) hgn2 (.string si)
      have hk7 := hk6.far (p := ⟨g1, i, none⟩) hgn2 (.string s0)
      have r2 := own_set (own_set o2 (a := ⟨g1, 0, none⟩) (fun e => own_ne o2 o1 (by decide) g1 e rfl) (.string si)) (a := ⟨g1, i, none⟩) (fun e => own_ne o2 o1 (by decide) g1 e rfl) (.string s0)
      have r3 := own_set (own_set o3 (a := ⟨g1, 0, none⟩) (fun e => own_ne o3 o1 (by decide) g1 e rfl) (.string si)) (a := ⟨g1, i, none⟩) (fun e => own_ne o3 o1 (by decide) g1 e rfl) (.string s0)
      have s2 := (own_sets o1 0 h0w si).1
      have r1 := (own_sets (ws := m.ws.set 0 si) (d := k1) (by simpa using s2) i (by simpa using hiw) s0).1
      have HBZ := Lib.hid ((HBZ.setCell (show w.heap.size ≤ (Addr.mk g1 0 none).block by show w.heap.size ≤ g1; omega) (.string si)).setCell (show w.heap.size ≤ (Addr.mk g1 i none).block by show w.heap.size ≤ g1; omega) (.string s0))
      clear q0 q1 q2 q3 a0 a1 o1 o2 o3 hk hk6 hka hf0 hf1 hf2 hf3 HBA s2 pf0 pfi pc0 pci hcD hfD hR0 HD
      generalize (Wd.setCell ⟨g1, 0, none⟩ (.string si)).setCell ⟨g1, i, none⟩ (.string s0) = Wz at *
      obtain ⟨hmor, _⟩ := mor_own (m := (Mo.mk ((m.ws.set 0 si).set i s0) m.cs m.ps m.back)) (by simpa using r1) r2 r3 (by simpa using hl1) hl2 hl3 (set_sizes (set_sizes HMs.out hmi.out) hm0.out) HMn.out
      have hmx : ∃ mx : Mo, mx = (Mo.mk ((m.ws.set 0 si).set i s0) m.cs m.ps m.back) := ⟨_, rfl⟩
      obtain ⟨mx, HMX⟩ := hmx
      obtain ⟨bv, HBV⟩ : ∃ bv, Hid (decide (MoOK mx) = bv) := ⟨_, rfl⟩
      rw [← HMX] at hmor
      have HMX := Lib.hid HMX
      have HV1 : Hid (∀ W2, Below Wz.heap.size Wz W2 → Calls Try.prog 19 #[.agg #[.slice (some ⟨g1, 0, none⟩) m.ws.length k1, .slice (some ⟨g2, 0, none⟩) m.cs.length k2, .slice C3 m.ps.length k3, .int .i64 m.back]] W2 fun e w' => e = .returned (.bool bv) ∧ Below W2.heap.size W2 w') := fun W2 h2 => by
        have h := valid_any mx (some ⟨g1, 0, none⟩) (some ⟨g2, 0, none⟩) C3 k1 k2 k3 W2 (hmor.below h2)
        rw [HBV.out, HMX.out] at h
        dsimp only at h
        rw [List.length_set, List.length_set] at h
        exact h
      have HV2 : Hid (∀ W2, Below Wz.heap.size Wz W2 → Calls Try.prog 20 #[.agg #[.slice (some ⟨g1, 0, none⟩) m.ws.length k1, .slice (some ⟨g2, 0, none⟩) m.cs.length k2, .slice C3 m.ps.length k3, .int .i64 m.back]] W2 fun e w' => e = .returned (.bool bv) ∧ Below W2.heap.size W2 w') := fun W2 h2 => by
        have h := refvalid_any mx (some ⟨g1, 0, none⟩) (some ⟨g2, 0, none⟩) C3 k1 k2 k3 W2 (hmor.below h2)
        rw [HBV.out, HMX.out] at h
        dsimp only at h
        rw [List.length_set, List.length_set] at h
        exact h
      clear hmor HMX HBV
      have hbe : (bv == bv) = true := by simp
      have q0 := hk7.cell 0
      have q1 := hk7.cell 1
      have q2 := hk7.cell 2
      have q3 := hk7.cell 3
      have hkl := hk7.lt
      refine ord_below [(0, false), (2, false), (1, true), (3, true), (4, false), (5, false), (6, false), (7, false), (8, false)] (by kernel_rfl) (by kernel_rfl) (by kernel_rfl) (fun _ _ _ _ _ h => h) ?_
      intro W0 hS0
      iterate 2 (first
        | (refine ord_skip rfl rfl ?_; simp only [Act.put, List.setIfInBounds_toArray, List.set_cons_zero, List.set_cons_succ])
        | (refine ord_take (v := ?_) rfl rfl ?_ ?_
           rotate_left 1
           focus (intro W hW; obtain ⟨hcW, hfW⟩ := bcell hW; (go_simp <;> with_reducible rfl))
           simp only [Act.put, List.setIfInBounds_toArray, List.set_cons_zero, List.set_cons_succ]))
      refine ord_call rfl rfl (fun K hK => ?_)
      go_simp
      go_at_call 19; refine (HV1.out _ hS0).mono ?_; rintro e w' ⟨rfl, hb'⟩; refine hK.out _ _ (hS0.trans (hb'.mono hS0.size)) (fun hS0 => ?_)
      skip
      refine ord_call rfl rfl (fun K hK => ?_)
      go_simp
      go_at_call 20; refine (HV2.out _ hS0).mono ?_; rintro e w' ⟨rfl, hb'⟩; refine hK.out _ _ (hS0.trans (hb'.mono hS0.size)) (fun hS0 => ?_)
      skip
      iterate 5 (first
        | (refine ord_skip rfl rfl ?_; simp only [Act.put, List.setIfInBounds_toArray, List.set_cons_zero, List.set_cons_succ])
        | (refine ord_take (v := ?_) rfl rfl ?_ ?_
           rotate_left 1
           focus (intro W hW; obtain ⟨hcW, hfW⟩ := bcell hW; (go_simp <;> with_reducible rfl))
           simp only [Act.put, List.setIfInBounds_toArray, List.set_cons_zero, List.set_cons_succ]))
      refine ord_nil ?_
      go_wp2_with fail
      go_ret
      exact ⟨rfl, HBZ.out.trans (hS0.mono HBZ.out.size)⟩
    · skip
      have e0 : (wb % 10 == 0) = false := by simp; omega
      have e1 : (wb % 10 == 1) = false := by simp; omega
      have e2 : (wb % 10 == 2) = false := by simp; omega
      have e3 : (wb % 10 == 3) = false := by simp; omega
      have e4 : (wb % 10 == 4) = false := by simp; omega
      have e5 : (wb % 10 == 5) = true := by simp; omega
      clear h
      have hu : 0 ≤ IntKind.u16.wrap n ∧ IntKind.u16.wrap n ≤ 65535 := by rw [IntKind.wrap_u16]; omega
      obtain ⟨u, hud⟩ : ∃ u, IntKind.u16.wrap n = u := ⟨_, rfl⟩
      rw [hud] at hu
      have hu1 : IntKind.i64.wrap u = u := IntWalk.i64_in _ (by omega)
      have hu2 : IntKind.i64.wrap (1073741824 - u) = 1073741824 - u := IntWalk.i64_in _ (by omega)
      have hv1 : wa.tmod 2 = wa % 2 := Int.tmod_eq_emod_of_nonneg hwa.1
      have hv2 : IntKind.u8.wrap (wa % 2) = wa % 2 := by rw [IntKind.wrap_u8]; omega
      have hv3 : IntKind.i64.wrap (wa % 2) = wa % 2 := IntWalk.i64_in _ (by omega)
      have hv4 : IntKind.i64.wrap (u + wa % 2) = u + wa % 2 := IntWalk.i64_in _ (by omega)
      have h0c : 0 < m.cs.length := by omega
      have h1c : 1 < m.cs.length := by omega
      have h0i : (0 : Int) < m.cs.length := by omega
      have h1i : (1 : Int) < m.cs.length := by omega
      obtain ⟨_, _, pf0, y0, _, pc0⟩ := own_seti o2 0 h0c (1073741824 - u)
      obtain ⟨_, _, pf1, y1, _, pc1⟩ := own_seti o2 1 h1c 0
      go_wp2_with fail
      have hgn2 : g ≠ g2 := by omega
      have han2 : w.heap.size + 1 ≠ g2 := by omega
      refine ord_start (Far g2 W0) [(0, false), (1, false), (2, false), (3, false), (4, false), (5, false), (6, false), (7, false), (8, false), (9, false), (10, false), (11, false), (12, false), (13, false), (14, false), (15, false), (16, false), (17, true), (18, false), (19, true)] (by kernel_rfl) (by kernel_rfl) (by kernel_rfl) (fun _ _ _ _ _ h => h) (fun _ _ => rfl) ?_
      intro hS0
      have HD : Below W0.heap.size W0 W0.drew := (Below.refl _ _).drew
      obtain ⟨hcD, hfD⟩ := bcell HD
      obtain ⟨Wd, hWd⟩ : ∃ Wd, W0.drew = Wd := ⟨_, rfl⟩
      rw [hWd] at HD hcD hfD hS0 ⊢
      clear hWd
      iterate 17 (first
        | (refine ord_skip rfl rfl ?_; simp only [Act.put, List.setIfInBounds_toArray, List.set_cons_zero, List.set_cons_succ])
        | (refine ord_take (v := ?_) rfl rfl ?_ ?_
           rotate_left 1
           focus (intro W hW; have hcW := hW.cell; (go_simp <;> with_reducible rfl))
           simp only [Act.put, List.setIfInBounds_toArray, List.set_cons_zero, List.set_cons_succ]))
      refine ord_call rfl rfl (fun K hK => ?_)
      go_simp
      refine hK.out _ _ (hS0.set _ _) (fun hS0 => ?_)
      iterate 1 (first
        | (refine ord_skip rfl rfl ?_; simp only [Act.put, List.setIfInBounds_toArray, List.set_cons_zero, List.set_cons_succ])
        | (refine ord_take (v := ?_) rfl rfl ?_ ?_
           rotate_left 1
           focus (intro W hW; have hcW := hW.cell; (go_simp <;> with_reducible rfl))
           simp only [Act.put, List.setIfInBounds_toArray, List.set_cons_zero, List.set_cons_succ]))
      refine ord_call rfl rfl (fun K hK => ?_)
      go_simp
      refine hK.out _ _ (hS0.set _ _) (fun hS0 => ?_)
      refine ord_nil ?_
      go_wp2_with fail
      have hk := hk.below HD hk.lt
      have o1 := own_below o1 HD
      have o2 := own_below o2 HD
      have o3 := own_below o3 HD
      have HBZ := HBA.out.trans (HD.mono HBA.out.size)
      have hk6 := hk.far (p := ⟨g2, 0, none⟩) hgn2 (.int .i64 (1073741824 - u))
      have hk7 := hk6.far (p := ⟨g2, 1, none⟩) hgn2 (.int .i64 (u + wa % 2))
      have r1 := own_set (own_set o1 (a := ⟨g2, 0, none⟩) (fun e => own_ne o1 o2 (by decide) g2 e rfl) (.int .i64 (1073741824 - u))) (a := ⟨g2, 1, none⟩) (fun e => own_ne o1 o2 (by decide) g2 e rfl) (.int .i64 (u + wa % 2))
      have r3 := own_set (own_set o3 (a := ⟨g2, 0, none⟩) (fun e => own_ne o3 o2 (by decide) g2 e rfl) (.int .i64 (1073741824 - u))) (a := ⟨g2, 1, none⟩) (fun e => own_ne o3 o2 (by decide) g2 e rfl) (.int .i64 (u + wa % 2))
      have s2 := (own_seti o2 0 h0c (1073741824 - u)).1
      have r2 := (own_seti (cs := m.cs.set 0 (1073741824 - u)) (d := k2) (by simpa using s2) 1 (by simpa using h1c) (u + wa % 2)).1
      have HBZ := Lib.hid ((HBZ.setCell (show w.heap.size ≤ (Addr.mk g2 0 none).block by show w.heap.size ≤ g2; omega) (.int .i64 (1073741824 - u))).setCell (show w.heap.size ≤ (Addr.mk g2 1 none).block by show w.heap.size ≤ g2; omega) (.int .i64 (u + wa % 2)))
      clear q0 q1 q2 q3 a0 a1 o1 o2 o3 hk hk6 hka hf0 hf1 hf2 hf3 HBA s2 pf0 pf1 pc0 pc1 hcD hfD hS0 HD hu1 hu2 hv1 hv2 hv3 hv4 hud
      generalize (Wd.setCell ⟨g2, 0, none⟩ (.int .i64 (1073741824 - u))).setCell ⟨g2, 1, none⟩ (.int .i64 (u + wa % 2)) = Wz at *
      obtain ⟨hmor, _⟩ := mor_own (m := (Mo.mk m.ws ((m.cs.set 0 (1073741824 - u)).set 1 (u + wa % 2)) m.ps m.back)) r1 (by simpa using r2) r3 hl1 (by simpa using hl2) hl3 HMs.out HMn.out
      have hmx : ∃ mx : Mo, mx = (Mo.mk m.ws ((m.cs.set 0 (1073741824 - u)).set 1 (u + wa % 2)) m.ps m.back) := ⟨_, rfl⟩
      obtain ⟨mx, HMX⟩ := hmx
      obtain ⟨bv, HBV⟩ : ∃ bv, Hid (decide (MoOK mx) = bv) := ⟨_, rfl⟩
      rw [← HMX] at hmor
      have HMX := Lib.hid HMX
      have HV1 : Hid (∀ W2, Below Wz.heap.size Wz W2 → Calls Try.prog 19 #[.agg #[.slice (some ⟨g1, 0, none⟩) m.ws.length k1, .slice (some ⟨g2, 0, none⟩) m.cs.length k2, .slice C3 m.ps.length k3, .int .i64 m.back]] W2 fun e w' => e = .returned (.bool bv) ∧ Below W2.heap.size W2 w') := fun W2 h2 => by
        have h := valid_any mx (some ⟨g1, 0, none⟩) (some ⟨g2, 0, none⟩) C3 k1 k2 k3 W2 (hmor.below h2)
        rw [HBV.out, HMX.out] at h
        dsimp only at h
        rw [List.length_set, List.length_set] at h
        exact h
      have HV2 : Hid (∀ W2, Below Wz.heap.size Wz W2 → Calls Try.prog 20 #[.agg #[.slice (some ⟨g1, 0, none⟩) m.ws.length k1, .slice (some ⟨g2, 0, none⟩) m.cs.length k2, .slice C3 m.ps.length k3, .int .i64 m.back]] W2 fun e w' => e = .returned (.bool bv) ∧ Below W2.heap.size W2 w') := fun W2 h2 => by
        have h := refvalid_any mx (some ⟨g1, 0, none⟩) (some ⟨g2, 0, none⟩) C3 k1 k2 k3 W2 (hmor.below h2)
        rw [HBV.out, HMX.out] at h
        dsimp only at h
        rw [List.length_set, List.length_set] at h
        exact h
      clear hmor HMX HBV
      have hbe : (bv == bv) = true := by simp
      have q0 := hk7.cell 0
      have q1 := hk7.cell 1
      have q2 := hk7.cell 2
      have q3 := hk7.cell 3
      have hkl := hk7.lt
      refine ord_below [(0, false), (2, false), (1, true), (3, true), (4, false), (5, false), (6, false), (7, false), (8, false)] (by kernel_rfl) (by kernel_rfl) (by kernel_rfl) (fun _ _ _ _ _ h => h) ?_
      intro W0 hS0
      iterate 2 (first
        | (refine ord_skip rfl rfl ?_; simp only [Act.put, List.setIfInBounds_toArray, List.set_cons_zero, List.set_cons_succ])
        | (refine ord_take (v := ?_) rfl rfl ?_ ?_
           rotate_left 1
           focus (intro W hW; obtain ⟨hcW, hfW⟩ := bcell hW; (go_simp <;> with_reducible rfl))
           simp only [Act.put, List.setIfInBounds_toArray, List.set_cons_zero, List.set_cons_succ]))
      refine ord_call rfl rfl (fun K hK => ?_)
      go_simp
      go_at_call 19; refine (HV1.out _ hS0).mono ?_; rintro e w' ⟨rfl, hb'⟩; refine hK.out _ _ (hS0.trans (hb'.mono hS0.size)) (fun hS0 => ?_)
      skip
      refine ord_call rfl rfl (fun K hK => ?_)
      go_simp
      go_at_call 20; refine (HV2.out _ hS0).mono ?_; rintro e w' ⟨rfl, hb'⟩; refine hK.out _ _ (hS0.trans (hb'.mono hS0.size)) (fun hS0 => ?_)
      skip
      iterate 5 (first
        | (refine ord_skip rfl rfl ?_; simp only [Act.put, List.setIfInBounds_toArray, List.set_cons_zero, List.set_cons_succ])
        | (refine ord_take (v := ?_) rfl rfl ?_ ?_
           rotate_left 1
           focus (intro W hW; obtain ⟨hcW, hfW⟩ := bcell hW; (go_simp <;> with_reducible rfl))
           simp only [Act.put, List.setIfInBounds_toArray, List.set_cons_zero, List.set_cons_succ]))
      refine ord_nil ?_
      go_wp2_with fail
      go_ret
      exact ⟨rfl, HBZ.out.trans (hS0.mono HBZ.out.size)⟩
    · skip
      have e0 : (wb % 10 == 0) = false := by simp; omega
      have e1 : (wb % 10 == 1) = false := by simp; omega
      have e2 : (wb % 10 == 2) = false := by simp; omega
      have e3 : (wb % 10 == 3) = false := by simp; omega
      have e4 : (wb % 10 == 4) = false := by simp; omega
      have e5 : (wb % 10 == 5) = false := by simp; omega
      by_cases hkp : k < m.ps.length
      · try skip
        have hki : (k : Int) < m.ps.length := by omega
        have h0p : 0 < m.ps.length := by omega
        have h0i : (0 : Int) < m.ps.length := by omega
        obtain ⟨g3, k3', _, hv3, hg3, hb3, _⟩ := blk_of_own o3 h0p
        have hg3s := hb3.lt
        injection hv3 with hv3 _ hv3'
        subst hv3
        subst hv3'
        obtain ⟨_, _, pf, y, hy, pc0, pc1, pc2⟩ := own_setp o3 k hkp ⟨0, 0, 0⟩
        obtain ⟨_, _, _, z, hz, pz0, pz1, pz2⟩ := own_setp o3 0 h0p ⟨0, 0, 0⟩
        have pfk0 := pf (k * 3); have pfk1 := pf (k * 3 + 1); have pfk2 := pf (k * 3 + 2)
        simp only [Nat.zero_mul, Nat.zero_add] at pz0 pz1 pz2
        have hgn3 : g ≠ g3 := by omega
        have han3 : w.heap.size + 1 ≠ g3 := by omega
        clear hb3 pf
        go_wp2_with fail
        refine ord_below [(0, false), (1, false), (2, false), (3, false), (4, false), (5, false), (6, false), (7, false), (8, false), (9, false), (10, false), (11, false), (12, false), (13, false), (14, false), (15, false), (16, false), (17, false), (18, false), (19, false), (20, true), (21, true)] (by kernel_rfl) (by kernel_rfl) (by kernel_rfl) (fun _ _ _ _ _ h => h) ?_
        intro W0 hS0
        iterate 20 (first
          | (refine ord_skip rfl rfl ?_; simp only [Act.put, List.setIfInBounds_toArray, List.set_cons_zero, List.set_cons_succ])
          | (refine ord_take (v := ?_) rfl rfl ?_ ?_
             rotate_left 1
             focus (intro W hW; obtain ⟨hcW, hfW⟩ := bcell hW; (go_simp <;> with_reducible rfl))
             simp only [Act.put, List.setIfInBounds_toArray, List.set_cons_zero, List.set_cons_succ]))
        refine ord_call rfl rfl (fun K hK => ?_)
        go_simp
        refine hK.out _ _ (hS0.alloc hS0.size _) (fun hS1 => ?_)
        skip
        refine ord_call rfl rfl (fun K hK => ?_)
        go_simp
        refine hK.out _ _ (hS0.alloc hS0.size _) (fun hS2 => ?_)
        skip
        refine ord_nil ?_
        have kS := Blk.new W0 51 #[.int .i64 y.a, .int .i64 y.b, .int .i64 y.n, .int .i64 y.a, .int .i64 y.b, .int .i64 y.n, .int .i64 y.a, .int .i64 y.b, .int .i64 y.n, .int .i64 z.a, .int .i64 z.b, .int .i64 z.n]
        have HS := hS2
        have hsz := hS0.size
        obtain ⟨Wa, hWa⟩ : ∃ Wa, W0.alloc (.cells #[.int .i64 y.a, .int .i64 y.b, .int .i64 y.n, .int .i64 y.a, .int .i64 y.b, .int .i64 y.n, .int .i64 y.a, .int .i64 y.b, .int .i64 y.n, .int .i64 z.a, .int .i64 z.b, .int .i64 z.n] 51) = Wa := ⟨_, rfl⟩
        rw [hWa] at HS kS hS2 ⊢
        clear hWa hS0 hS1
        clear hS2
        generalize W0.heap.size = gp at *
        have qs0 := kS.cell 0; have qs4 := kS.cell 4; have qs8 := kS.cell 8; have fs0 := kS.frozen 0; have fs4 := kS.frozen 4; have fs8 := kS.frozen 8
        go_wp2_with fail
        have kp := ((kS.set_ 0 (.int .i64 n)).set_ 4 (.int .i64 n)).set_ 8 (.int .i64 n)
        have HS := HS.setCell (p := ⟨gp, 0, none⟩) hsz (.int .i64 n)
        have HS := HS.setCell (p := ⟨gp, 4, none⟩) hsz (.int .i64 n)
        have HS := HS.setCell (p := ⟨gp, 8, none⟩) hsz (.int .i64 n)
        clear kS qs0 qs4 qs8 fs0 fs4 fs8
        generalize ((Wa.setCell ⟨gp, 0, none⟩ (.int .i64 n)).setCell ⟨gp, 4, none⟩ (.int .i64 n)).setCell ⟨gp, 8, none⟩ (.int .i64 n) = Wq at *
        have hk := hk.below HS hk.lt
        have hka := hka.below HS hka.lt
        have o1 := own_below o1 HS
        have o2 := own_below o2 HS
        have o3 := own_below o3 HS
        have HBA := Lib.hid (HBA.out.trans (HS.mono HBA.out.size))
        have hyn : -4294967296 ≤ y.n ∧ y.n ≤ 4294967296 := HMn.out _ (List.mem_map_of_mem (List.mem_of_getElem? hy))
        have hzn : -4294967296 ≤ z.n ∧ z.n ≤ 4294967296 := HMn.out _ (List.mem_map_of_mem (List.mem_of_getElem? hz))
        clear q0 q1 q2 q3 a0 a1 hf0 hf1 hf2 hf3 pc0 pc1 pc2 pz0 pz1 pz2 pfk0 pfk1 pfk2
        have ht4 : wb.tmod 4 = wb % 4 := Int.tmod_eq_emod_of_nonneg hwb.1
        have hw4 : IntKind.u8.wrap (wb % 4) = wb % 4 := by rw [IntKind.wrap_u8]; omega
        have hr4 : 0 ≤ wb % 4 ∧ wb % 4 < 4 := by omega
        generalize wb % 4 = zz at *
        obtain ⟨r, rfl⟩ := Int.eq_ofNat_of_zero_le hr4.1
        have hp' : ∃ p' : Pr, (Wq.cell? ⟨gp, r * 3, none⟩ = some (.int .i64 p'.a) ∧ Wq.cell? ⟨gp, r * 3 + 1, none⟩ = some (.int .i64 p'.b) ∧ Wq.cell? ⟨gp, r * 3 + 2, none⟩ = some (.int .i64 p'.n)) ∧ -4294967296 ≤ p'.n ∧ p'.n ≤ 4294967296 := by (have h5 : r = 0 ∨ r = 1 ∨ r = 2 ∨ r = 3 := (by omega); rcases h5 with rfl | rfl | rfl | rfl; exact ⟨⟨n, y.b, y.n⟩, ⟨kp.cell 0, kp.cell 1, kp.cell 2⟩, hyn⟩; exact ⟨⟨y.a, n, y.n⟩, ⟨kp.cell 3, kp.cell 4, kp.cell 5⟩, hyn⟩; exact ⟨⟨y.a, y.b, n⟩, ⟨kp.cell 6, kp.cell 7, kp.cell 8⟩, (by show -4294967296 ≤ n; omega), (by show n ≤ 4294967296; omega)⟩; exact ⟨z, ⟨kp.cell 9, kp.cell 10, kp.cell 11⟩, hzn⟩)
        obtain ⟨p', ⟨pp0, pp1, pp2⟩, hpn⟩ := hp'
        have hpn := Lib.hid hpn
        have hgpl := kp.lt
        clear hyn hzn hy hz
        have q0 := hk.cell 0
        have q1 := hk.cell 1
        have q2 := hk.cell 2
        have q3 := hk.cell 3
        have a1 := hka.cell 1
        have hkl := hk.lt; have hal := hka.lt
        obtain ⟨_, _, pf, y, hy, pc0, pc1, pc2⟩ := own_setp o3 k hkp ⟨0, 0, 0⟩
        have pfk0 := pf (k * 3); have pfk1 := pf (k * 3 + 1); have pfk2 := pf (k * 3 + 2)
        clear pf hy kp
        have hg3s : g3 < Wq.heap.size := Nat.lt_of_lt_of_le hg3s HS.size
        refine ordT_below [9] [(0, false), (1, false), (2, false), (3, false), (4, false), (5, false), (6, false), (7, false), (8, false), (9, true)] (by kernel_rfl) (by kernel_rfl) (by kernel_rfl) (fun _ _ _ _ _ h => h) ?_
        intro Wd HD
        iterate 9 (first | (refine ordT_skip rfl rfl (by assumption) ?_; simp only [Act.put, List.setIfInBounds_toArray, List.set_cons_zero, List.set_cons_succ]) | (refine ordT_take (v := ?_) rfl rfl (by assumption) ?_ ?_; rotate_left 1; (focus (intro W hW; obtain ⟨hcW, hfW⟩ := bcell hW; (go_simp <;> (try with_reducible rfl)))); simp only [Act.put, List.setIfInBounds_toArray, List.set_cons_zero, List.set_cons_succ]))
        obtain ⟨hcA, hfA⟩ := bcell HD
        refine ordT_call rfl rfl (fun K hK => ?_)
        go_simp
        refine hK.out _ _ (fun h => by cases h) ?_
        clear hK K
        refine ordT_nil ?_
        go_wp2_with fail
        have hk := hk.below HD hk.lt
        have o1 := own_below o1 HD
        have o2 := own_below o2 HD
        have o3 := own_below o3 HD
        have HBZ := HBA.out.trans (HD.mono HBA.out.size)
        have hk7 := ((hk.far (p := ⟨g3, k * 3, none⟩) hgn3 (.int .i64 p'.a)).far (p := ⟨g3, k * 3 + 1, none⟩) hgn3 (.int .i64 p'.b)).far (p := ⟨g3, k * 3 + 2, none⟩) hgn3 (.int .i64 p'.n)
        have p1 := own_set (own_set (own_set o1 (a := ⟨g3, k * 3, none⟩) (fun e => own_ne o1 o3 (by decide) g3 e rfl) (.int .i64 p'.a)) (a := ⟨g3, k * 3 + 1, none⟩) (fun e => own_ne o1 o3 (by decide) g3 e rfl) (.int .i64 p'.b)) (a := ⟨g3, k * 3 + 2, none⟩) (fun e => own_ne o1 o3 (by decide) g3 e rfl) (.int .i64 p'.n)
        have p2 := own_set (own_set (own_set o2 (a := ⟨g3, k * 3, none⟩) (fun e => own_ne o2 o3 (by decide) g3 e rfl) (.int .i64 p'.a)) (a := ⟨g3, k * 3 + 1, none⟩) (fun e => own_ne o2 o3 (by decide) g3 e rfl) (.int .i64 p'.b)) (a := ⟨g3, k * 3 + 2, none⟩) (fun e => own_ne o2 o3 (by decide) g3 e rfl) (.int .i64 p'.n)
        have p3 := (own_setp o3 k hkp p').1
        have HBZ := HBZ.setCell (show w.heap.size ≤ (Addr.mk g3 (k * 3) none).block by show w.heap.size ≤ g3; omega) (.int .i64 p'.a)
        have HBZ := HBZ.setCell (show w.heap.size ≤ (Addr.mk g3 (k * 3 + 1) none).block by show w.heap.size ≤ g3; omega) (.int .i64 p'.b)
        have HBZ := HBZ.setCell (show w.heap.size ≤ (Addr.mk g3 (k * 3 + 2) none).block by show w.heap.size ≤ g3; omega) (.int .i64 p'.n)
        have HBZ := Lib.hid HBZ
        clear q0 q1 q2 q3 a1 o1 o2 o3 hk hka HBA hcA hfA HD HS pp0 pp1 pp2 pc0 pc1 pc2 pfk0 pfk1 pfk2
        generalize ((Wd.setCell ⟨g3, k * 3, none⟩ (.int .i64 p'.a)).setCell ⟨g3, k * 3 + 1, none⟩ (.int .i64 p'.b)).setCell ⟨g3, k * 3 + 2, none⟩ (.int .i64 p'.n) = Wz at *
        have hwn : Within 4294967296 ((m.ps.set k p').map Pr.n) := fun x hx => by (obtain ⟨q, hq, rfl⟩ := List.mem_map.1 hx; rcases List.mem_or_eq_of_mem_set hq with h1 | h1; exact HMn.out _ (List.mem_map_of_mem h1); (rw [h1]; exact hpn.out))
        obtain ⟨hmor, _⟩ := mor_own (m := (Mo.mk m.ws m.cs (m.ps.set k p') m.back)) p1 p2 (by simpa using p3) hl1 hl2 (by simpa using hl3) HMs.out hwn
        have hmx : ∃ mx : Mo, mx = (Mo.mk m.ws m.cs (m.ps.set k p') m.back) := ⟨_, rfl⟩
        obtain ⟨mx, HMX⟩ := hmx
        obtain ⟨bv, HBV⟩ : ∃ bv, Hid (decide (MoOK mx) = bv) := ⟨_, rfl⟩
        rw [← HMX] at hmor
        have HMX := Lib.hid HMX
        have HV1 : Hid (∀ W2, Below Wz.heap.size Wz W2 → Calls Try.prog 19 #[.agg #[.slice (some ⟨g1, 0, none⟩) m.ws.length k1, .slice (some ⟨g2, 0, none⟩) m.cs.length k2, .slice (some ⟨g3, 0, none⟩) m.ps.length k3, .int .i64 m.back]] W2 fun e w' => e = .returned (.bool bv) ∧ Below W2.heap.size W2 w') := fun W2 h2 => by
          have h := valid_any mx (some ⟨g1, 0, none⟩) (some ⟨g2, 0, none⟩) (some ⟨g3, 0, none⟩) k1 k2 k3 W2 (hmor.below h2)
          rw [HBV.out, HMX.out] at h
          dsimp only at h
          rw [List.length_set] at h
          exact h
        have HV2 : Hid (∀ W2, Below Wz.heap.size Wz W2 → Calls Try.prog 20 #[.agg #[.slice (some ⟨g1, 0, none⟩) m.ws.length k1, .slice (some ⟨g2, 0, none⟩) m.cs.length k2, .slice (some ⟨g3, 0, none⟩) m.ps.length k3, .int .i64 m.back]] W2 fun e w' => e = .returned (.bool bv) ∧ Below W2.heap.size W2 w') := fun W2 h2 => by
          have h := refvalid_any mx (some ⟨g1, 0, none⟩) (some ⟨g2, 0, none⟩) (some ⟨g3, 0, none⟩) k1 k2 k3 W2 (hmor.below h2)
          rw [HBV.out, HMX.out] at h
          dsimp only at h
          rw [List.length_set] at h
          exact h
        clear hmor HMX HBV
        have hbe : (bv == bv) = true := by simp
        have q0 := hk7.cell 0
        have q1 := hk7.cell 1
        have q2 := hk7.cell 2
        have q3 := hk7.cell 3
        have hkl := hk7.lt
        refine ord_below [(0, false), (2, false), (1, true), (3, true), (4, false), (5, false), (6, false), (7, false), (8, false)] (by kernel_rfl) (by kernel_rfl) (by kernel_rfl) (fun _ _ _ _ _ h => h) ?_
        intro W0 hS0
        iterate 2 (first
          | (refine ord_skip rfl rfl ?_; simp only [Act.put, List.setIfInBounds_toArray, List.set_cons_zero, List.set_cons_succ])
          | (refine ord_take (v := ?_) rfl rfl ?_ ?_
             rotate_left 1
             focus (intro W hW; obtain ⟨hcW, hfW⟩ := bcell hW; (go_simp <;> with_reducible rfl))
             simp only [Act.put, List.setIfInBounds_toArray, List.set_cons_zero, List.set_cons_succ]))
        refine ord_call rfl rfl (fun K hK => ?_)
        go_simp
        go_at_call 19; refine (HV1.out _ hS0).mono ?_; rintro e w' ⟨rfl, hb'⟩; refine hK.out _ _ (hS0.trans (hb'.mono hS0.size)) (fun hS0 => ?_)
        skip
        refine ord_call rfl rfl (fun K hK => ?_)
        go_simp
        go_at_call 20; refine (HV2.out _ hS0).mono ?_; rintro e w' ⟨rfl, hb'⟩; refine hK.out _ _ (hS0.trans (hb'.mono hS0.size)) (fun hS0 => ?_)
        skip
        iterate 5 (first
          | (refine ord_skip rfl rfl ?_; simp only [Act.put, List.setIfInBounds_toArray, List.set_cons_zero, List.set_cons_succ])
          | (refine ord_take (v := ?_) rfl rfl ?_ ?_
             rotate_left 1
             focus (intro W hW; obtain ⟨hcW, hfW⟩ := bcell hW; (go_simp <;> with_reducible rfl))
             simp only [Act.put, List.setIfInBounds_toArray, List.set_cons_zero, List.set_cons_succ]))
        refine ord_nil ?_
        go_wp2_with fail
        go_ret
        exact ⟨rfl, HBZ.out.trans (hS0.mono HBZ.out.size)⟩
      · go_wp2_with fail
        have hk7 := hk
        have HBZ := HBA
        clear q0 q1 q2 q3 a0 a1 hk hka hf0 hf1 hf2 hf3 HBA
        obtain ⟨Wz, HWZ⟩ : ∃ Wz, Wz = W0 := ⟨_, rfl⟩
        subst HWZ
        obtain ⟨hmor, _⟩ := mor_own (m := Mo.mk m.ws m.cs m.ps m.back) o1 o2 o3 hl1 hl2 hl3 HMs.out HMn.out
        have hmx : ∃ mx : Mo, mx = (Mo.mk m.ws m.cs m.ps m.back) := ⟨_, rfl⟩
        obtain ⟨mx, HMX⟩ := hmx
        obtain ⟨bv, HBV⟩ : ∃ bv, Hid (decide (MoOK mx) = bv) := ⟨_, rfl⟩
        rw [← HMX] at hmor
        have HMX := Lib.hid HMX
        have HV1 : Hid (∀ W2, Below Wz.heap.size Wz W2 → Calls Try.prog 19 #[.agg #[.slice (some ⟨g1, 0, none⟩) m.ws.length k1, .slice (some ⟨g2, 0, none⟩) m.cs.length k2, .slice C3 m.ps.length k3, .int .i64 m.back]] W2 fun e w' => e = .returned (.bool bv) ∧ Below W2.heap.size W2 w') := fun W2 h2 => by
          have h := valid_any mx (some ⟨g1, 0, none⟩) (some ⟨g2, 0, none⟩) C3 k1 k2 k3 W2 (hmor.below h2)
          rw [HBV.out, HMX.out] at h
          dsimp only at h
          exact h
        have HV2 : Hid (∀ W2, Below Wz.heap.size Wz W2 → Calls Try.prog 20 #[.agg #[.slice (some ⟨g1, 0, none⟩) m.ws.length k1, .slice (some ⟨g2, 0, none⟩) m.cs.length k2, .slice C3 m.ps.length k3, .int .i64 m.back]] W2 fun e w' => e = .returned (.bool bv) ∧ Below W2.heap.size W2 w') := fun W2 h2 => by
          have h := refvalid_any mx (some ⟨g1, 0, none⟩) (some ⟨g2, 0, none⟩) C3 k1 k2 k3 W2 (hmor.below h2)
          rw [HBV.out, HMX.out] at h
          dsimp only at h
          exact h
        clear hmor HMX HBV
        have hbe : (bv == bv) = true := by simp
        have q0 := hk7.cell 0
        have q1 := hk7.cell 1
        have q2 := hk7.cell 2
        have q3 := hk7.cell 3
        have hkl := hk7.lt
        refine ord_below [(0, false), (2, false), (1, true), (3, true), (4, false), (5, false), (6, false), (7, false), (8, false)] (by kernel_rfl) (by kernel_rfl) (by kernel_rfl) (fun _ _ _ _ _ h => h) ?_
        intro W0 hS0
        iterate 2 (first
          | (refine ord_skip rfl rfl ?_; simp only [Act.put, List.setIfInBounds_toArray, List.set_cons_zero, List.set_cons_succ])
          | (refine ord_take (v := ?_) rfl rfl ?_ ?_
             rotate_left 1
             focus (intro W hW; obtain ⟨hcW, hfW⟩ := bcell hW; (go_simp <;> with_reducible rfl))
             simp only [Act.put, List.setIfInBounds_toArray, List.set_cons_zero, List.set_cons_succ]))
        refine ord_call rfl rfl (fun K hK => ?_)
        go_simp
        go_at_call 19; refine (HV1.out _ hS0).mono ?_; rintro e w' ⟨rfl, hb'⟩; refine hK.out _ _ (hS0.trans (hb'.mono hS0.size)) (fun hS0 => ?_)
        skip
        refine ord_call rfl rfl (fun K hK => ?_)
        go_simp
        go_at_call 20; refine (HV2.out _ hS0).mono ?_; rintro e w' ⟨rfl, hb'⟩; refine hK.out _ _ (hS0.trans (hb'.mono hS0.size)) (fun hS0 => ?_)
        skip
        iterate 5 (first
          | (refine ord_skip rfl rfl ?_; simp only [Act.put, List.setIfInBounds_toArray, List.set_cons_zero, List.set_cons_succ])
          | (refine ord_take (v := ?_) rfl rfl ?_ ?_
             rotate_left 1
             focus (intro W hW; obtain ⟨hcW, hfW⟩ := bcell hW; (go_simp <;> with_reducible rfl))
             simp only [Act.put, List.setIfInBounds_toArray, List.set_cons_zero, List.set_cons_succ]))
        refine ord_nil ?_
        go_wp2_with fail
        go_ret
        exact ⟨rfl, HBZ.out.trans (hS0.mono HBZ.out.size)⟩
end Go.Proofs.Ytbfpcleogdalfaa

