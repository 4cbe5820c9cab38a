/-
  The walks of layer 16: how many elements at the beginning of a page are ways, each before the next one.
-/
import Derived.Test.YtbikjmafddndpaaGrWalkI
import Derived.Test.YtbikjmafddndpaaBase
import Derived.WalkMore
namespace Go.Proofs.Ytbikjmafddndpaa
open Go Go.RowKit

def RCan (w : World) (x : Can) (vs : List Value) : Prop := ∃ A c, vs = [.slice A x.links.length c, .int .i64 x.cost] ∧ SlR 1 RInt w A x.links ∧ x.links.length ≤ c ∧ c ≤ maxLen
theorem keeps_can : Keeps RCan := fun _ _ _ _ hb ⟨A, c, h, hs, hl⟩ => ⟨A, c, h, hs.below keeps_int hb, hl⟩
theorem SlR.can {w : World} {A : Option Addr} {xs : List Can} (h : SlR 2 RCan w A xs) {k : Nat} (hk : k < xs.length) :
    ∃ b off x A' c, A = some ⟨b, off, none⟩ ∧ b < w.heap.size ∧ xs[k]? = some x ∧ w.cell? ⟨b, off + k * 2, none⟩ = some (.slice A' x.links.length c) ∧ w.cell? ⟨b, off + k * 2 + 1, none⟩ = some (.int .i64 x.cost) ∧ SlR 1 RInt w A' x.links ∧ x.links.length ≤ c ∧ c ≤ maxLen := by
  obtain ⟨b, off, x, vs, hA, hlt, hx, ⟨A', c, hr, hs, hl⟩, _, hv⟩ := h.at_ hk
  exact ⟨b, off, x, A', c, hA, hlt, hx, hv 0 _ (by rw [hr]; rfl), hv 1 _ (by rw [hr]; rfl), hs, hl⟩
def prevO (l : List Can) : Nat → Option Can
  | 0 => none
  | k + 1 => l[k]?
theorem ordN_at (g : Gr) {l : List Can} {k : Nat} {c : Can} (h : l[k]? = some c) :
    ordN g (prevO l k) (l.drop k) = if canB g c && (match prevO l k with | none => true | some p => canLt p c) then ordN g (prevO l (k + 1)) (l.drop (k + 1)) + 1 else 0 := by
  obtain ⟨hk, rfl⟩ := List.getElem?_eq_some_iff.1 h
  rw [List.drop_eq_getElem_cons hk]
  conv => lhs; unfold ordN
  show _ = if _ then ordN g (l[k]?) _ + 1 else 0
  rw [h]
  rfl
theorem canB_cost {g : Gr} {c : Can} : canB g c = ((costM g c.links).2 && decide ((costM g c.links).1 = c.cost)) := by
  unfold canB costM
  cases h : wayB g 0 c.links with
  | false => simp
  | true => simp [eq_comm]
set_option maxRecDepth 100000 in
set_option maxHeartbeats 8000000 in
theorem ordered_any (A : Option Addr) (c : Nat) (g : Gr) (B : Option Addr) (l : List Can) (d : Nat) (w : World) (hx : SlR 4 RLk w A g.ls) (hl : g.ls.length ≤ maxLen) (hg : GrOK g) (hy : SlR 2 RCan w B l) (hl2 : l.length ≤ maxLen) :
    Calls Try.prog 50 #[.agg #[.int .i64 g.n, .slice A g.ls.length c], .slice B l.length d] w fun e w' => e = .returned (.int .i64 (ordN g none l : Nat)) ∧ Below w.heap.size w w' := by
  have hl0 := hl
  unfold maxLen at hl hl2
  obtain ⟨w1, hw1⟩ : ∃ w1, w.alloc (.cells #[.int .i64 g.n, .slice A g.ls.length c] 30) = w1 := ⟨_, rfl⟩
  have hb1 : Below w.heap.size w w1 := by rw [← hw1]; exact nw _ (Below.refl _ _)
  have hB1 : Blk w1 w.heap.size 30 #[.int .i64 g.n, .slice A g.ls.length c] := by rw [← hw1]; exact Blk.new _ _ _
  have HW1 := Lib.hid hw1
  have lb := hB1.lt
  have hbox : ∀ W, Below w1.heap.size w1 W → W.cell? ⟨w.heap.size, 0, none⟩ = some (.int .i64 g.n) ∧ W.cell? ⟨w.heap.size, 1, none⟩ = some (.slice A g.ls.length c) := fun W hW => by
    have h := hB1.below hW lb
    have h0 := h.cell 0
    have h1 := h.cell 1
    simp at h0 h1
    exact ⟨h0, h1⟩
  have HBOX := Lib.hid hbox
  have HG := Lib.hid hg
  have HCO : Hid (∀ (W : World) (C : Option Addr) (ks : List Int) (e : Nat), Below w.heap.size w W → SlR 1 RInt W C ks → ks.length ≤ maxLen → Calls Try.prog 18 #[.agg #[.int .i64 g.n, .slice A g.ls.length c], .slice C ks.length e] W fun e w' => e = .returned (.tuple #[.int .i64 (costM g ks).1, .bool (costM g ks).2]) ∧ Below W.heap.size W w') :=
    fun W C ks e hW hs hk => cost_any A c g C ks e W (hx.below keeps_lk hW) hl0 hg hs hk
  clear hw1 hg hbox
  go_enter Try.func50, Try.ntmps50
  go_upto_region 1 with fail
  rw [HW1.out]
  go_wp2_with fail
  go_step3
  go_wp2_with fail
  go_step3
  go_wp2_with fail
  go_loopw [5, 12] (fun n i wr => ∃ k : Nat, k ≤ l.length ∧ Hid (ordN g none l = k + ordN g (prevO l k) (l.drop k)) ∧ n = .int .i64 k ∧ i = .int .i64 k ∧ Below w1.heap.size w1 wr) (fun _ i _ => l.length - (intOf i).toNat)
  case atStart => exact ⟨0, by omega, by show _ = _; simp [prevO], rfl, rfl, Below.refl _ _⟩
  case round =>
    obtain ⟨k, hk, HS, rfl, rfl, hbr⟩ := hrel
    by_cases hlt : k < l.length
    · have hbw := bthen hb1 hbr
      obtain ⟨b, off, x, A', cc, rfl, hbb, hxx, e0, e1, hs, hxc, hxm⟩ := (hy.below keeps_can hbw).can hlt
      have hxl : x.links.length ≤ maxLen := by omega
      have HAT := Lib.hid (ordN_at g hxx)
      rw [canB_cost] at HAT
      have HPR : Hid (∀ p, prevO l k = some p → ∃ (p' : Nat) (A2 : Option Addr) (c2 : Nat), k = p' + 1 ∧ wr.cell? ⟨b, off + p' * 2, none⟩ = some (.slice A2 p.links.length c2) ∧ wr.cell? ⟨b, off + p' * 2 + 1, none⟩ = some (.int .i64 p.cost) ∧ SlR 1 RInt wr A2 p.links ∧ p.links.length ≤ maxLen) := fun p hp => by
        cases k with
        | zero => cases hp
        | succ p' =>
          obtain ⟨b2, o2, x2, A2, c2, he, _, hx2, f0, f1, hs2, hl2⟩ := (hy.below keeps_can hbw).can (k := p') (by omega)
          obtain ⟨rfl, rfl⟩ : b = b2 ∧ off = o2 := by injection he with he; injection he with h1 h2; exact ⟨h1, h2⟩
          have : l[p']? = some p := hp
          rw [hx2] at this
          obtain rfl := Option.some.inj this
          exact ⟨p', A2, c2, rfl, f0, f1, hs2, by omega⟩
      have HPN : Hid (prevO l k = none → k = 0) := fun h => by
        cases k with
        | zero => rfl
        | succ p' => have : l[p']? = none := h; rw [List.getElem?_eq_none_iff] at this; omega
      obtain ⟨g0, g1⟩ := HBOX.out wr hbr
      -- the element boxed
      obtain ⟨W2, hW2⟩ : ∃ W, wr.alloc (.cells #[.slice A' x.links.length cc, .int .i64 x.cost] 43) = W := ⟨_, rfl⟩
      have hb2 : Below wr.heap.size wr W2 := by rw [← hW2]; exact nw _ (Below.refl _ _)
      have hC2 : Blk W2 wr.heap.size 43 #[.slice A' x.links.length cc, .int .i64 x.cost] := by rw [← hW2]; exact Blk.new _ _ _
      have HW2 := Lib.hid hW2
      have hcl := hC2.lt
      have q0 := hC2.cell 0
      have q1 := hC2.cell 1
      simp at q0 q1
      have hbr2 := bthen hbr hb2
      have hbw2 := bthen hbw hb2
      obtain ⟨g2, g3⟩ := HBOX.out W2 hbr2
      have HCO2 := Lib.hid (HCO.out W2 A' x.links cc hbw2 (hs.below keeps_int hb2) hxl)
      have HS2 := Lib.hid hs
      have hws : IntKind.i64.wrap ((k : Int) + 1) = (k : Int) + 1 := IntWalk.i64_in _ (by omega)
      clear hW2 hxx hs hx hy
      go_upto_region 5 with fail
      rw [HW2.out]
      obtain ⟨gc, hgc⟩ : ∃ b, wr.heap.size = b := ⟨_, rfl⟩
      rw [hgc] at hC2 q0 q1 hcl ⊢
      cases hcv : costM g x.links with
      | mk cv ok =>
      rw [hcv] at HAT HCO2
      clear hcv g0 g1 e0 e1
      cases ok with
      | false =>
        have HN : Hid (ordN g none l = k) := by show _ = _; rw [HS.out, HAT.out]; simp
        go_wp2_with (go_at_call 18; go_loud (refine HCO2.out.mono ?_; rintro e w3 ⟨rfl, hb3⟩; have q3 := (hb3.cell (p := ⟨gc, 1, none⟩) hcl).trans q1))
        rw [Exit.noGoto_ret]
        go_ret
        exact ⟨ret_int (by rw [HN.out]), bthen hbw2 hb3⟩
      | true =>
        by_cases hcc : cv = x.cost
        · have hne : (cv != x.cost) = false := by simp [hcc]
          have HD : Hid (decide (cv = x.cost) = true) := decide_eq_true hcc
          clear hcc
          go_upto_region 8 with (go_at_call 18; go_loud (refine HCO2.out.mono ?_; rintro e V ⟨rfl, hb3⟩; have q3 := (hb3.cell (p := ⟨gc, 1, none⟩) hcl).trans q1))
          have hbV := bthen hbw2 hb3
          have hbV1 := bthen hbr2 hb3
          obtain ⟨g4, g5⟩ := HBOX.out V hbV1
          have q2 := (hb3.cell (p := ⟨gc, _, none⟩) hcl).trans q0
          have q3 := (hb3.cell (p := ⟨gc, _, none⟩) hcl).trans q1
          have hxs := (HS2.out.below keeps_int hb2).below keeps_int hb3
          have hwrV := bthen hb2 hb3
          have hVl := hb3.size
          have z6 : w.heap.size < V.heap.size := by have := hbV1.size; omega
          have z7 : b < V.heap.size := by have := hwrV.size; omega
          have z8 : gc < V.heap.size := by omega
          clear q0 q1 g2 g3
          cases hpo : prevO l k with
          | none =>
            have HN : Hid (ordN g none l = (k + 1 : Nat) + ordN g (prevO l (k + 1)) (l.drop (k + 1))) := by
              show _ = _
              rw [HS.out, HAT.out, HD.out, hpo]
              simp
              omega
            have hk0 := HPN.out hpo
            have z1 : decide (0 < k) = false := by simp [hk0]
            clear hpo hk0
            go_wp2_with fail
            refine ordB_below (.quiet 0 (.quiet 1 (.quiet 2 (.quiet 3 (.quiet 4 (.quiet 5 (.quiet 6 (.quiet 7 (.quiet 8 (.quiet 9 (.only 10 (.quiet 11 (.quiet 12 (.quiet 13 .done)))))))))))))) (by kernel_rfl) (by kernel_rfl) (by kernel_rfl) (fun _ _ _ _ _ h => h) ?_
            intro V0 hV0
            iterate 10 (first
              | (refine ordB_skip rfl rfl ?_; simp only [Act.put, List.setIfInBounds_toArray, List.set_cons_zero, List.set_cons_succ])
              | (refine ordB_take (v := ?_) rfl rfl ?_ ?_
                 rotate_left 1
                 focus (intro W hW; obtain ⟨hcW, hfW⟩ := bcell hW; (go_simp <;> with_reducible rfl))
                 simp only [Act.put, List.setIfInBounds_toArray, List.set_cons_zero, List.set_cons_succ]))
            refine ordB_only (opB_cskip rfl rfl hV0 ?_)
            simp only [Act.put, List.setIfInBounds_toArray, List.set_cons_zero, List.set_cons_succ]
            iterate 3 (first
              | (refine ordB_skip rfl rfl ?_; simp only [Act.put, List.setIfInBounds_toArray, List.set_cons_zero, List.set_cons_succ])
              | (refine ordB_take (v := ?_) rfl rfl ?_ ?_
                 rotate_left 1
                 focus (intro W hW; obtain ⟨hcW, hfW⟩ := bcell hW; (go_simp <;> with_reducible rfl))
                 simp only [Act.put, List.setIfInBounds_toArray, List.set_cons_zero, List.set_cons_succ]))
            refine ordB_nil ?_
            have hE := hbV.trans (hV0.mono hbV.size)
            have hE1 := hbV1.trans (hV0.mono hbV1.size)
            go_wp2_with fail
            go_roundw
            case rel => exact ⟨k + 1, by omega, HN.out, by go_num, by go_num, hE1⟩
            case measure => simp [intOf]; omega
          | some p =>
            obtain ⟨p', A2, c2, hkp, f0, f1, hs2, hpl⟩ := HPR.out p hpo
            have f2 := (hwrV.cell (p := ⟨b, _, none⟩) hbb).trans f0
            have f3 := (hwrV.cell (p := ⟨b, _, none⟩) hbb).trans f1
            have hs3 := hs2.below keeps_int hwrV
            have HL : Hid (∀ W, Below V.heap.size V W → Calls Try.prog 23 #[.agg #[.int .i64 g.n, .slice A g.ls.length c], .agg #[.slice A2 p.links.length c2, .int .i64 p.cost], .agg #[.slice A' x.links.length cc, .int .i64 x.cost]] W fun e w' => e = .returned (.bool (canLt p x)) ∧ Below W.heap.size W w') :=
              fun W hW => less_any g.n _ A2 A' p x c2 cc W (hs3.below keeps_int hW) (hxs.below keeps_int hW) hpl hxl
            have z1 : decide (0 < k) = true := decide_eq_true (by omega)
            have z2 : IntKind.i64.wrap ((k : Int) - 1) = (p' : Int) := by rw [hkp]; have := IntWalk.i64_in ((p' : Int)) (by omega); rw [show ((p' + 1 : Nat) : Int) - 1 = (p' : Int) by omega]; exact this
            have z3 : p' < l.length := by omega
            have z4 : (p' : Int) < (l.length : Int) := by omega
            have z5 : (0 : Int) ≤ (p' : Int) := by omega
            clear hkp f0 f1 hs2 hs3 hxs
            cases hcl2 : canLt p x with
            | true =>
              have HN : Hid (ordN g none l = (k + 1 : Nat) + ordN g (prevO l (k + 1)) (l.drop (k + 1))) := by
                show _ = _
                rw [HS.out, HAT.out, HD.out, hpo]
                simp [hcl2]
                omega
              rw [hcl2] at HL
              clear hcl2 hpo
              go_wp2_with fail
              refine ordB_below (.quiet 0 (.quiet 1 (.quiet 2 (.quiet 3 (.quiet 4 (.quiet 5 (.quiet 6 (.quiet 7 (.quiet 8 (.quiet 9 (.only 10 (.quiet 11 (.quiet 12 (.quiet 13 .done)))))))))))))) (by kernel_rfl) (by kernel_rfl) (by kernel_rfl) (fun _ _ _ _ _ h => h) ?_
              intro V0 hV0
              iterate 10 (first
                | (refine ordB_skip rfl rfl ?_; simp only [Act.put, List.setIfInBounds_toArray, List.set_cons_zero, List.set_cons_succ])
                | (refine ordB_take (v := ?_) rfl rfl ?_ ?_
                   rotate_left 1
                   focus (intro W hW; obtain ⟨hcW, hfW⟩ := bcell hW; (go_simp <;> with_reducible rfl))
                   simp only [Act.put, List.setIfInBounds_toArray, List.set_cons_zero, List.set_cons_succ]))
              refine ordB_only (opB_call rfl rfl (fun K hK => ?_))
              go_simp
              go_at_call 23
              refine (HL.out V0 hV0).mono ?_
              rintro e V0_1 ⟨rfl, hb9⟩
              refine hK.out _ _ (hV0.trans (hb9.mono hV0.size)) (fun hV0_1 => ?_)
              iterate 3 (first
                | (refine ordB_skip rfl rfl ?_; simp only [Act.put, List.setIfInBounds_toArray, List.set_cons_zero, List.set_cons_succ])
                | (refine ordB_take (v := ?_) rfl rfl ?_ ?_
                   rotate_left 1
                   focus (intro W hW; obtain ⟨hcW, hfW⟩ := bcell hW; (go_simp <;> with_reducible rfl))
                   simp only [Act.put, List.setIfInBounds_toArray, List.set_cons_zero, List.set_cons_succ]))
              refine ordB_nil ?_
              have hE := hbV.trans (hV0_1.mono hbV.size)
              have hE1 := hbV1.trans (hV0_1.mono hbV1.size)
              go_wp2_with fail
              go_roundw
              case rel => exact ⟨k + 1, by omega, HN.out, by go_num, by go_num, hE1⟩
              case measure => simp [intOf]; omega
            | false =>
              have HN : Hid (ordN g none l = k) := by
                show _ = _
                rw [HS.out, HAT.out, HD.out, hpo]
                simp [hcl2]
              rw [hcl2] at HL
              clear hcl2 hpo
              go_wp2_with fail
              refine ordB_below (.quiet 0 (.quiet 1 (.quiet 2 (.quiet 3 (.quiet 4 (.quiet 5 (.quiet 6 (.quiet 7 (.quiet 8 (.quiet 9 (.only 10 (.quiet 11 (.quiet 12 (.quiet 13 .done)))))))))))))) (by kernel_rfl) (by kernel_rfl) (by kernel_rfl) (fun _ _ _ _ _ h => h) ?_
              intro V0 hV0
              iterate 10 (first
                | (refine ordB_skip rfl rfl ?_; simp only [Act.put, List.setIfInBounds_toArray, List.set_cons_zero, List.set_cons_succ])
                | (refine ordB_take (v := ?_) rfl rfl ?_ ?_
                   rotate_left 1
                   focus (intro W hW; obtain ⟨hcW, hfW⟩ := bcell hW; (go_simp <;> with_reducible rfl))
                   simp only [Act.put, List.setIfInBounds_toArray, List.set_cons_zero, List.set_cons_succ]))
              refine ordB_only (opB_call rfl rfl (fun K hK => ?_))
              go_simp
              go_at_call 23
              refine (HL.out V0 hV0).mono ?_
              rintro e V0_1 ⟨rfl, hb9⟩
              refine hK.out _ _ (hV0.trans (hb9.mono hV0.size)) (fun hV0_1 => ?_)
              iterate 3 (first
                | (refine ordB_skip rfl rfl ?_; simp only [Act.put, List.setIfInBounds_toArray, List.set_cons_zero, List.set_cons_succ])
                | (refine ordB_take (v := ?_) rfl rfl ?_ ?_
                   rotate_left 1
                   focus (intro W hW; obtain ⟨hcW, hfW⟩ := bcell hW; (go_simp <;> with_reducible rfl))
                   simp only [Act.put, List.setIfInBounds_toArray, List.set_cons_zero, List.set_cons_succ]))
              refine ordB_nil ?_
              have hE := hbV.trans (hV0_1.mono hbV.size)
              have hE1 := hbV1.trans (hV0_1.mono hbV1.size)
              go_wp2_with fail
              rw [Exit.noGoto_ret]
              go_ret
              exact ⟨ret_int (by rw [HN.out]), hE⟩
        · have HN : Hid (ordN g none l = k) := by show _ = _; rw [HS.out, HAT.out]; simp [hcc]
          have hne : (cv != x.cost) = true := by simp [hcc]
          clear hcc
          go_wp2_with (go_at_call 18; go_loud (refine HCO2.out.mono ?_; rintro e w3 ⟨rfl, hb3⟩; have q3 := (hb3.cell (p := ⟨gc, 1, none⟩) hcl).trans q1))
          rw [Exit.noGoto_ret]
          go_ret
          exact ⟨ret_int (by rw [HN.out]), bthen hbw2 hb3⟩
    · have HN : Hid (ordN g none l = l.length) := by
        show _ = _
        rw [HS.out, show k = l.length by omega, List.drop_length]
        simp [ordN]
      obtain rfl : k = l.length := by omega
      have hE := bthen hb1 hbr
      go_wp2_with fail
      rw [Exit.noGoto_ret]
      go_ret
      exact ⟨ret_int (by rw [HN.out]), hE⟩
end Go.Proofs.Ytbikjmafddndpaa
