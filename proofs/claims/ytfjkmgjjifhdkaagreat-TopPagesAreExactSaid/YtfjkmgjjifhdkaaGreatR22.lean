/-
  The walks of layer 16: the visit of the tree of the beginnings of ways.
-/
import Derived.Test.YtfjkmgjjifhdkaaGreatR21
import Derived.Test.YtfjkmgjjifhdkaaGreatR04
import Derived.Test.YtfjkmgjjifhdkaaGreatR05
import Derived.Deep.DeepCutAuto
import Derived.ArgAppend
import Derived.Deep.CutBlock
namespace Go.Proofs.YtfjkmgjjifhdkaaGreat
open Go Go.RowKit

/-- What the visit's captured variables hold, in the world ahead of its own. -/
structure VEnv (w0 : World) (g : Gr) (N bH bF bG : Nat) (AH AF A : Option Addr) (cH cF c : Nat) : Prop where
  ok : GrOK g
  n : g.n = (N : Int)
  hb : Blk w0 bH 40 #[.slice AH N cH]
  hs : SlR 1 RInt w0 AH (potL g)
  fb : Blk w0 bF 91 #[.slice AF N cF]
  fs : SlR 1 RSl w0 AF (leavL g N)
  gb : Blk w0 bG 38 #[.int .i64 (N : Int), .slice A g.ls.length c]
  gs : SlR 4 RLk w0 A g.ls
abbrev ptr (b : Nat) : Value := .pointer (some ⟨b, 0, none⟩)
def visV (bL bH bF bG bV : Nat) : Value := .func (.func 92) #[] #[ptr bL, ptr bH, ptr bF, ptr bG, ptr bV]
structure VInv (w0 : World) (bL bV : Nat) (fv : Value) (W : World) (o : Oth) : Prop where
  below : Below w0.heap.size w0 W
  least : ∃ AL cL, Blk W bL 131 #[.bool o.there, .int .i64 o.cost, .slice AL o.links.length cL] ∧ SlR 1 RInt W AL o.links ∧ ∀ b o, AL = some ⟨b, o, none⟩ → w0.heap.size ≤ b
  len : o.links.length ≤ 2000
  visit : Blk W bV 164 #[fv]
theorem VInv.mono {w0 : World} {bL bV : Nat} {fv : Value} {W W' : World} {o : Oth} (h : VInv w0 bL bV fv W o) (hb : Below W.heap.size W W') : VInv w0 bL bV fv W' o := by
  obtain ⟨h1, ⟨AL, cL, h2, h3, h6⟩, h4, h5⟩ := h
  exact ⟨h1.trans (hb.mono h1.size), ⟨AL, cL, h2.below hb h2.lt, h3.below keeps_int hb, h6⟩, h4, h5.below hb h5.lt⟩
theorem slr_take {w : World} {A : Option Addr} {xs : List Int} (h : SlR 1 RInt w A xs) (n : Nat) : SlR 1 RInt w A (xs.take n) := fun hne => by
  obtain ⟨b, o, hA, hb, hc⟩ := h (by rintro rfl; simp at hne)
  refine ⟨b, o, hA, hb, fun k x hk => hc k x ?_⟩
  rw [List.getElem?_take] at hk
  split at hk
  · exact hk
  · cases hk
theorem slr_pre {α : Type} {s : Nat} {R : World → α → List Value → Prop} {w : World} {A : Option Addr} {xs : List α} (h : SlR s R w A xs) (n : Nat) : SlR s R w A (xs.take n) := fun hne => by
  obtain ⟨b, o, hA, hb, hc⟩ := h (by rintro rfl; simp at hne)
  refine ⟨b, o, hA, hb, fun k x hk => hc k x ?_⟩
  rw [List.getElem?_take] at hk
  split at hk
  · exact hk
  · cases hk
/-- What lies behind the first k elements. -/
theorem slr_drop {α : Type} {R : World → α → List Value → Prop} {w : World} {b o : Nat} {xs : List α} (h : SlR 1 R w (some ⟨b, o, none⟩) xs) (n : Nat) : SlR 1 R w (some ⟨b, o + n, none⟩) (xs.drop n) := fun hne => by
  obtain ⟨b', o', hA, hb, hc⟩ := h (by rintro rfl; simp at hne)
  obtain ⟨rfl, rfl⟩ : b = b' ∧ o = o' := by injection hA with hA; injection hA with h1 h2; exact ⟨h1, h2⟩
  refine ⟨b, o + n, rfl, hb, fun k x hk => ?_⟩
  rw [List.getElem?_drop] at hk
  obtain ⟨vs, h1, h2, h3⟩ := hc _ x hk
  refine ⟨vs, h1, h2, fun j v hj => ?_⟩
  have := h3 j v hj
  rw [show o + n + k * 1 + j = o + (n + k) * 1 + j by omega]
  exact this
/-- The ways that are visited: n links lead to the node. -/
def WOK (g : Gr) (n : Nat) (v : Int) (ws : List (List Int)) : Prop := ∀ w ∈ ws, ∃ p r, w = p ++ r ∧ p.length = n ∧ wayB g v r = true
theorem WOK.at_ {g : Gr} {n : Nat} {v : Int} {ws : List (List Int)} (h : WOK g n v ws) (hv : v < g.n - 1) {w : List Int} (hw : w ∈ ws) : ∃ i r, n < w.length ∧ w[n]? = some i ∧ w.getD n 0 = i ∧ i ∈ lvs g v ∧ wayB g (lkAt g i).to r = true ∧ w.drop (n + 1) = r := by
  obtain ⟨p, r, rfl, rfl, hr⟩ := h w hw
  cases r with
  | nil => unfold wayB at hr; simp at hr; omega
  | cons i r =>
    obtain ⟨h1, h2⟩ := way_cons.1 hr
    exact ⟨i, r, by simp, by simp, by simp, h1, h2, by simp⟩
theorem WOK.next {g : Gr} {n : Nat} {v i : Int} {ws ws' : List (List Int)} (h : WOK g n v ws) (hv : v < g.n - 1) (hs : ∀ w ∈ ws', w ∈ ws ∧ w.getD n 0 = i) : WOK g (n + 1) (lkAt g i).to ws' := fun w hw => by
  obtain ⟨h1, h2⟩ := hs w hw
  obtain ⟨i', r, h3, h4, h5, _, h6, h7⟩ := h.at_ hv h1
  obtain rfl : i' = i := by rw [← h5, h2]
  exact ⟨w.take (n + 1), r, by rw [← h7, List.take_append_drop], by simp; omega, h6⟩
theorem hAt_get {g : Gr} (_hg : GrOK g) {v : Nat} (hv : (v : Int) < g.n) : (potL g)[v]? = some (hAt g (v : Int)) := by
  have hl : (potL g).length = g.n.toNat := potS_len g _
  unfold hAt
  rw [Int.toNat_natCast, List.getD_eq_getElem?_getD, List.getElem?_eq_getElem (by omega)]
  rfl
theorem hAt_bd {g : Gr} (hg : GrOK g) {v : Nat} (hv : (v : Int) < g.n) : -1 ≤ hAt g (v : Int) ∧ hAt g (v : Int) ≤ 2000000000 := by
  have h1 := hAt_get hg hv
  have h2 := potS_bd hg g.n.toNat _ (List.mem_of_getElem? h1)
  have := hg.n
  omega
theorem takeW_at {p : List Int → Bool} : ∀ {ws : List (List Int)} {t : Nat} {x : List Int}, t < (ws.takeWhile p).length → ws[t]? = some x → p x = true
  | [], t, x, h, _ => by simp at h
  | y :: ws, t, x, h, hx => by
    rw [List.takeWhile_cons] at h
    by_cases hy : p y = true
    · rw [if_pos hy] at h
      cases t with
      | zero => simp at hx; rw [← hx]; exact hy
      | succ t => exact takeW_at (t := t) (by simpa using h) (by simpa using hx)
    · rw [if_neg hy] at h; simp at h
theorem takeW_end {p : List Int → Bool} : ∀ {ws : List (List Int)} {x : List Int}, ws[(ws.takeWhile p).length]? = some x → p x = false
  | [], x, h => by simp at h
  | y :: ws, x, h => by
    rw [List.takeWhile_cons] at h
    cases hy : p y with
    | true =>
      rw [if_pos hy] at h
      exact takeW_end (ws := ws) (by simpa using h)
    | false =>
      rw [if_neg (by rw [hy]; simp)] at h
      simp at h
      rw [← h]; exact hy
theorem takeW_le {p : List Int → Bool} (ws : List (List Int)) : (ws.takeWhile p).length ≤ ws.length := (List.takeWhile_sublist _).length_le
theorem takeW_take {p : List Int → Bool} (ws : List (List Int)) : ws.take (ws.takeWhile p).length = ws.takeWhile p := (List.prefix_iff_eq_take.1 (List.takeWhile_prefix p)).symm
theorem fold_snocV {α β : Type} {f : α → β → α} {L : List β} {j : Nat} {i : β} {a : α} (h : L[j]? = some i) : (L.take (j + 1)).foldl f a = f ((L.take j).foldl f a) i := by
  rw [take_succ_of h, List.foldl_append]
  rfl
set_option maxRecDepth 100000 in
set_option maxHeartbeats 16000000 in
theorem visit_any {w0 : World} {g : Gr} {N bH bF bG : Nat} {AH AF A : Option Addr} {cH cF cG : Nat} (E : VEnv w0 g N bH bF bG AH AF A cH cF cG) (bL bV : Nat) (hbL : w0.heap.size ≤ bL) (hne : bL ≠ bV) :
    ∀ (f : Nat) (W : World) (o : Oth) (ws : List (List Int)) (WA : Option Addr) (wk n v : Nat) (c : Int),
      VInv w0 bL bV (visV bL bH bF bG bV) W o → SlR 1 RSl w0 WA ws → ws ≠ [] → ws.length ≤ wk → wk ≤ maxLen → WOK g n (v : Int) ws → v < N → n ≤ v → 0 ≤ c → c ≤ 1000000 * (n : Int) → N - v ≤ f →
      Calls Tryz.prog 92 #[.slice WA ws.length wk, .int .i64 (n : Int), .int .i64 (v : Int), .int .i64 c, ptr bL, ptr bH, ptr bF, ptr bG, ptr bV] W fun e w' => e = .returned (.tuple #[]) ∧ VInv w0 bL bV (visV bL bH bF bG bV) w' (visitM g f o ws n (v : Int) c) ∧ ButB bL W w' := by
  intro f
  induction f with
  | zero => intro W o ws WA wk n v c _ _ _ _ _ _ h1 _ _ _ h2; exfalso; omega
  | succ f ih =>
    intro W o ws WA wk n v c hI hws hwne hwl hwk hwok hvN hnv hc0 hc1 hf
    have IH := Lib.hid ih
    obtain ⟨i0, hi, hz0, hz1, hz2⟩ := info_parts int_inf
    clear ih
    have HI := Lib.hid hI
    have HE := Lib.hid E
    have hN : (N : Int) ≤ 2000 := by have h1 := E.ok.n; have h2 := E.n; omega
    have hvg : (v : Int) < g.n := by have := E.n; omega
    have hhv := E.hs
    obtain ⟨bh, oh, hx, hAH, hbh, hhx, hhc⟩ := hhv.int (k := v) (by have : (potL g).length = g.n.toNat := potS_len g _; omega)
    rw [hAt_get E.ok hvg] at hhx
    obtain rfl := Option.some.inj hhx
    have hhb := hAt_bd E.ok hvg
    have hB0 := HI.out.below
    have k0 := (E.hb.below hB0 E.hb.lt).cell 0
    have k1 := (hB0.cell (p := ⟨bh, oh + v, none⟩) hbh).trans hhc
    obtain ⟨AL, cL, hLb, hLs, _⟩ := HI.out.least
    have l0 := hLb.cell 0
    have l1 := hLb.cell 1
    have sz0 := hB0.size
    have szL := hLb.lt
    have sbH : bH < W.heap.size := Nat.lt_of_lt_of_le E.hb.lt sz0
    have sbh : bh < W.heap.size := Nat.lt_of_lt_of_le hbh sz0
    simp at k0 l0 l1
    subst hAH
    have HM : Hid (visitM g (f + 1) o ws n (v : Int) c = if o.there = true ∧ o.cost ≤ c + hAt g (v : Int) then o else ((lvs g (v : Int)).foldl (visStep g (visitM g f) ((ws.headD []).take n) n c) (o, ws)).1) := rfl
    have HHV : Hid (∃ hv, hAt g (v : Int) = hv) := ⟨_, rfl⟩
    have hwr : IntKind.i64.wrap (c + hAt g (v : Int)) = c + hAt g (v : Int) := IntWalk.i64_in _ (by omega)
    generalize hAt g (v : Int) = hv at *
    clear hI E hB0 hLb hLs hhv hhc HHV hvg
    by_cases hcut : o.there = true ∧ o.cost ≤ c + hv
    · have HR : Hid (visitM g (f + 1) o ws n (v : Int) c = o) := by show _ = _; rw [HM.out, if_pos hcut]
      obtain ⟨h1, h2⟩ := hcut
      rw [h1] at l0
      have z1 : decide (o.cost ≤ c + hv) = true := decide_eq_true h2
      clear h1
      go_enter Tryz.func92, Tryz.ntmps92
      go_wp2_with fail
      refine ordB_below (.quiet 0 (.quiet 1 (.quiet 2 (.quiet 3 (.quiet 4 (.quiet 5 (.quiet 6 (.quiet 7 (.quiet 8 (.quiet 9 (.quiet 10 (.quiet 11 (.quiet 12 .done))))))))))))) (by kernel_rfl) (by kernel_rfl) (by kernel_rfl) (fun _ _ _ _ _ h => h) ?_
      intro V0 hV0
      iterate 13 (first
        | (refine ordB_skip rfl rfl ?_; simp only [Act.put, List.setIfInBounds_toArray, List.set_cons_zero, List.set_cons_succ])
        | (refine ordB_take (v := ?_) rfl rfl ?_ ?_
           rotate_left 1
           focus (intro W hW; obtain ⟨hcW, hfW⟩ := bcell hW; (go_simp <;> with_reducible rfl))
           simp only [Act.put, List.setIfInBounds_toArray, List.set_cons_zero, List.set_cons_succ]))
      refine ordB_nil ?_
      go_wp2_with fail
      refine bodyPost_ret (results_none rfl _ _ _) rfl ?_
      exact ⟨rfl, by rw [HR.out]; exact HI.out.mono hV0, ButB.of_below hV0⟩
    · have HR : Hid (visitM g (f + 1) o ws n (v : Int) c = ((lvs g (v : Int)).foldl (visStep g (visitM g f) ((ws.headD []).take n) n c) (o, ws)).1) := by show _ = _; rw [HM.out, if_neg hcut]
      have hzz : (o.there = false ∧ True) ∨ (o.there = true ∧ decide (o.cost ≤ c + hv) = false) := by
        cases ht : o.there with
        | false => exact .inl ⟨rfl, trivial⟩
        | true => exact .inr ⟨rfl, decide_eq_false fun h => hcut ⟨ht, h⟩⟩
      clear hcut
      go_enter Tryz.func92, Tryz.ntmps92
      go_upto_region 0 with fail
      go_cut [31] (fun s31 W' => s31 = .bool false ∧ Below W.heap.size W W')
      case first =>
        rcases hzz with ⟨h1, _⟩ | ⟨h1, z1⟩
        · rw [h1] at l0
          clear h1
          refine ordB_below (.quiet 0 (.quiet 1 (.quiet 2 (.quiet 3 (.quiet 4 (.quiet 5 (.quiet 6 (.quiet 7 (.quiet 8 (.quiet 9 (.quiet 10 (.quiet 11 (.quiet 12 .done))))))))))))) (by kernel_rfl) (by kernel_rfl) (by kernel_rfl) (fun _ _ _ _ _ h => h) ?_
          intro V0 hV0
          iterate 13 (first
            | (refine ordB_skip rfl rfl ?_; simp only [Act.put, List.setIfInBounds_toArray, List.set_cons_zero, List.set_cons_succ])
            | (refine ordB_take (v := ?_) rfl rfl ?_ ?_
               rotate_left 1
               focus (intro W hW; obtain ⟨hcW, hfW⟩ := bcell hW; (go_simp <;> with_reducible rfl))
               simp only [Act.put, List.setIfInBounds_toArray, List.set_cons_zero, List.set_cons_succ]))
          refine ordB_nil ?_
          go_wp2_with fail
          go_meet
          exact ⟨rfl, hV0⟩
        · rw [h1] at l0
          clear h1
          refine ordB_below (.quiet 0 (.quiet 1 (.quiet 2 (.quiet 3 (.quiet 4 (.quiet 5 (.quiet 6 (.quiet 7 (.quiet 8 (.quiet 9 (.quiet 10 (.quiet 11 (.quiet 12 .done))))))))))))) (by kernel_rfl) (by kernel_rfl) (by kernel_rfl) (fun _ _ _ _ _ h => h) ?_
          intro V0 hV0
          iterate 13 (first
            | (refine ordB_skip rfl rfl ?_; simp only [Act.put, List.setIfInBounds_toArray, List.set_cons_zero, List.set_cons_succ])
            | (refine ordB_take (v := ?_) rfl rfl ?_ ?_
               rotate_left 1
               focus (intro W hW; obtain ⟨hcW, hfW⟩ := bcell hW; (go_simp <;> with_reducible rfl))
               simp only [Act.put, List.setIfInBounds_toArray, List.set_cons_zero, List.set_cons_succ]))
          refine ordB_nil ?_
          go_wp2_with fail
          go_meet
          exact ⟨rfl, hV0⟩
      case rest =>
        obtain ⟨W1, rfl⟩ : ∃ W, W = wc := ⟨wc, rfl⟩
        obtain ⟨rfl, hbW⟩ := hcut
        have HI := Lib.hid (HI.out.mono hbW)
        have HBW := Lib.hid (ButB.of_below (g := bL) hbW)
        clear hbW k0 k1 l0 l1 sz0 szL sbH sbh hzz hhx hbh
        have hD := HI.out.below
        have szD := hD.size
        -- the first of the ways, and the head that all have
        obtain ⟨x0, wt, hx0⟩ : ∃ x r, ws = x :: r := by cases ws with | nil => exact absurd rfl hwne | cons x r => exact ⟨x, r, rfl⟩
        have hwlen : 0 < ws.length := by rw [hx0]; simp
        obtain ⟨b0, o0, x0', A0, c0, rfl, hb0, hxx0, hc0', hs0, hl0, hm0⟩ := hws.sl hwlen
        have e0 : x0 = x0' := by rw [hx0] at hxx0; simpa using hxx0
        subst e0
        have hnx : n ≤ x0.length := by obtain ⟨p, r, hp, hpn, _⟩ := hwok x0 (by rw [hx0]; simp); rw [hp]; simp; omega
        have HHD : Hid ((ws.headD []).take n = x0.take n) := by show _ = _; rw [hx0]; rfl
        have hwsl : ws.length ≠ 0 := by omega
        have m0 := (hD.cell (p := ⟨b0, _, none⟩) hb0).trans hc0'
        rw [Nat.add_zero] at m0
        have hw0pos : (0 : Int) < (ws.length : Int) := by omega
        have hnc : n ≤ c0 := by omega
        have hnc' : (n : Int) ≤ (c0 : Int) := by omega
        -- the links that leave the node
        obtain ⟨bf, of_, xs, Ai, ci, hAF, hbf, hxs, hcf, hsl, hlc, hlm⟩ := HE.out.fs.sl (k := v) (by rw [leavL_len]; omega)
        rw [leavL_at g hvN] at hxs
        obtain rfl := Option.some.inj hxs
        have f0 := (HE.out.fb.below hD HE.out.fb.lt).cell 0
        have f1 := (hD.cell (p := ⟨bf, of_ + v, none⟩) hbf).trans hcf
        simp at f0
        rw [hAF] at f0
        have hvl : (lvs g (v : Int)).length ≤ 20000 := by have := stN_le g (v + 1); rw [stN_succ] at this; have := HE.out.ok.len; omega
        have hvN' : (v : Int) < (N : Int) := by omega
        have HSL := Lib.hid hsl
        have HWS := Lib.hid hws
        have HWK := Lib.hid hwok
        have HS0 := Lib.hid hs0
        have HBF := Lib.hid hbf
        clear hxs hcf hAF hsl hlc hlm hws hwok hs0 hxx0 hc0' hD hx0 hbf
        obtain ⟨stp, hstp⟩ : ∃ F, visStep g (visitM g f) (x0.take n) n c = F := ⟨_, rfl⟩
        have HSTP := Lib.hid hstp
        have HR2 : Hid (visitM g (f + 1) o ws n (v : Int) c = ((lvs g (v : Int)).foldl stp (o, ws)).1) := by show _ = _; rw [HR.out, HHD.out, hstp]
        clear hstp HM HR HHD
        go_wp2_with fail
        go_loopw [0, 43] (fun wsv i wr => ∃ (j : Nat) (o' : Oth) (ws' : List (List Int)) (b1 o1 wk' : Nat), j ≤ (lvs g (v : Int)).length ∧ Hid (((lvs g (v : Int)).take j).foldl stp (o, ws) = (o', ws')) ∧ i = .int .i64 j ∧
            wsv = .slice (some ⟨b1, o1, none⟩) ws'.length wk' ∧ Hid (SlR 1 RSl w0 (some ⟨b1, o1, none⟩) ws') ∧ ws'.length ≤ wk' ∧ wk' ≤ maxLen ∧ Hid (WOK g n (v : Int) ws') ∧ Hid (VInv w0 bL bV (visV bL bH bF bG bV) wr o') ∧ ButB bL W wr) (fun _ i _ => (lvs g (v : Int)).length - (intOf i).toNat)
        case atStart => exact ⟨0, o, ws, b0, o0, wk, by omega, rfl, rfl, rfl, HWS, hwl, hwk, HWK, HI, HBW.out⟩
        case round =>
          obtain ⟨j, o', ws', b1, o1, wk', hj, HST, rfl, rfl, HWS', hwl', hwk', HWK', HI', hbut⟩ := hrel
          by_cases hlt : j < (lvs g (v : Int)).length
          · have hD := HI'.out.below
            obtain ⟨bi, oi, x, hAi, hbi, hxi, hci⟩ := HSL.out.int hlt
            subst hAi
            have HXI := Lib.hid hxi
            have hix := List.mem_of_getElem? hxi
            obtain ⟨hx0, hx1, hx2⟩ := lvs_iff.1 hix
            obtain ⟨xn, rfl⟩ : ∃ xn : Nat, x = (xn : Int) := ⟨x.toNat, by omega⟩
            have hxnl : xn < g.ls.length := by omega
            have g0 := (HE.out.gb.below hD HE.out.gb.lt).cell 1
            have i0 := (hD.cell (p := ⟨bi, oi + j, none⟩) hbi).trans hci
            obtain ⟨b, off, l, hA, hbb, hll, d0, d1, d2, d3⟩ := (HE.out.gs.below keeps_lk hD).lk hxnl
            have hok := HE.out.ok.ls l (List.mem_of_getElem? hll)
            have hLk := lkAt_nat hll
            have hfr : l.fr = (v : Int) := by rw [hLk] at hx2; exact hx2
            obtain ⟨o1', o2, o3, o4, o5⟩ := hok
            obtain ⟨tn, htn⟩ : ∃ tn : Nat, l.to = (tn : Int) := ⟨l.to.toNat, by omega⟩
            have htN : tn < N := by have := HE.out.n; omega
            have htv : v < tn := by omega
            have htg : (tn : Int) < g.n := by have := HE.out.n; omega
            have hvlast : (v : Int) < g.n - 1 := by omega
            have hhs := HE.out.hs
            obtain ⟨bh2, oh2, hx, hAH, hbh, hhx, hhc⟩ := hhs.int (k := tn) (by have : (potL g).length = g.n.toNat := potS_len g _; omega)
            rw [hAt_get HE.out.ok htg] at hhx
            obtain rfl := Option.some.inj hhx
            obtain ⟨rfl, rfl⟩ : bh = bh2 ∧ oh = oh2 := by injection hAH with hAH; injection hAH with h1 h2; exact ⟨h1, h2⟩
            have hhb2 := hAt_bd HE.out.ok htg
            have hBH := HE.out.hb.below hD HE.out.hb.lt
            have hHC := (hD.cell (p := ⟨bh, oh + tn, none⟩) hbh).trans hhc
            have HLK := Lib.hid hLk
            have HTN := Lib.hid htn
            simp at g0
            rw [hA] at g0
            obtain ⟨W2, hW2⟩ : ∃ W, wr.alloc (.cells #[.int .i64 l.fr, .int .i64 l.to, .int .i64 l.lb, .int .i64 l.cost] 105) = W := ⟨_, rfl⟩
            have hb2 : Below wr.heap.size wr W2 := by rw [← hW2]; exact nw _ (Below.refl _ _)
            have hLb : Blk W2 wr.heap.size 105 #[.int .i64 l.fr, .int .i64 l.to, .int .i64 l.lb, .int .i64 l.cost] := by rw [← hW2]; exact Blk.new _ _ _
            have HW2 := Lib.hid hW2
            have HI2 := Lib.hid (HI'.out.mono hb2)
            have HBT := Lib.hid (hbut.trans (ButB.of_below hb2))
            have hD2 := HI2.out.below
            have h20 := (HE.out.hb.below hD2 HE.out.hb.lt).cell 0
            have h21 := (hD2.cell (p := ⟨bh, oh + tn, none⟩) hbh).trans hhc
            have u1 := hLb.cell 1
            have u3 := hLb.cell 3
            have hLl := hLb.lt
            simp at h20 u1 u3
            rw [htn] at u1
            clear hW2 hll hLk htn hxi hix hx2 hfr hhs hAH hhx hhc hA hBH hHC hbh o2 o3 htg hci hbi hbut
            go_upto_region 6 with fail
            rw [HW2.out]
            have hn8_ : wr.heap.size ≠ bL := by obtain ⟨_, _, h, _⟩ := HI'.out.least; have := h.lt; omega
            obtain ⟨t8, ht8⟩ : ∃ b, wr.heap.size = b := ⟨_, rfl⟩
            rw [ht8] at hLb hLl u1 u3 hn8_ ⊢
            clear ht8 g0 i0 d0 d1 d2 d3 hb2 hD hbb
            have HFS : Hid (((lvs g (v : Int)).take (j + 1)).foldl stp (o, ws) = stp (o', ws') (xn : Int)) := by show _ = _; rw [fold_snocV HXI.out, HST.out]
            have HSD : Hid (stp (o', ws') (xn : Int) = visStep g (visitM g f) (x0.take n) n c (o', ws') (xn : Int)) := by show _ = _; rw [HSTP.out]
            have HHT : Hid (hAt g (lkAt g (xn : Int)).to = hAt g (tn : Int)) := by show _ = _; rw [HLK.out, HTN.out]
            by_cases hneg : hAt g (tn : Int) < 0
            · have HS1 : Hid (((lvs g (v : Int)).take (j + 1)).foldl stp (o, ws) = (o', ws')) := by
                show _ = _
                rw [HFS.out, HSD.out]
                unfold visStep
                dsimp only
                rw [HHT.out, if_pos hneg]
              clear HHT HSD
              generalize hAt g (tn : Int) = ht at *
              go_wp2_with fail
              go_roundw
              case rel => exact ⟨j + 1, o', ws', b1, o1, wk', by omega, HS1, by go_num, rfl, HWS', hwl', hwk', HWK', HI2, HBT.out⟩
              case measure => simp [intOf]; omega
            · obtain ⟨tw, htw⟩ : ∃ L, ws'.takeWhile (fun w => decide (w.getD n 0 = (xn : Int))) = L := ⟨_, rfl⟩
              obtain ⟨T, hT⟩ : ∃ T, tw.length = T := ⟨_, rfl⟩
              have hTl : T ≤ ws'.length := by rw [← hT, ← htw]; exact takeW_le _
              have HTK : Hid (ws'.take T = tw) := by show _ = _; rw [← hT, ← htw]; exact takeW_take _
              have HTA : Hid (∀ (t : Nat) (y : List Int), t < T → ws'[t]? = some y → y.getD n 0 = (xn : Int)) := fun t y ht hy => by
                have := takeW_at (p := fun w => decide (w.getD n 0 = (xn : Int))) (ws := ws') (t := t) (x := y) (by rw [htw, hT]; exact ht) hy
                simpa using this
              have HTE : Hid (∀ y : List Int, ws'[T]? = some y → y.getD n 0 ≠ (xn : Int)) := fun y hy => by
                have := takeW_end (p := fun w => decide (w.getD n 0 = (xn : Int))) (ws := ws') (x := y) (by rw [htw, hT]; exact hy)
                simpa using this
              have HS2 : Hid (((lvs g (v : Int)).take (j + 1)).foldl stp (o, ws) = if tw ≠ [] then (visitM g f o' tw (n + 1) (tn : Int) (c + l.cost), ws'.drop T) else if o'.there = false ∨ c + l.cost + hAt g (tn : Int) < o'.cost then (⟨true, c + l.cost + hAt g (tn : Int), x0.take n ++ [(xn : Int)]⟩, ws') else (o', ws')) := by
                show _ = _
                rw [HFS.out, HSD.out]
                unfold visStep
                dsimp only
                rw [HHT.out, if_neg hneg, htw, hT, HLK.out, HTN.out]
              have HTW := Lib.hid htw
              have HTT := Lib.hid hT
              clear HHT HSD HFS htw hT
              have hwm : ws'.length ≤ 9223372036854775807 := by unfold maxLen at hwk'; omega
              go_upto_block 2 with fail
              go_cut [17] (fun s17 W => s17 = .int .i64 (T : Nat) ∧ W2 = W)
              case first =>
                go_wp2_with fail
                go_loop [17] (fun s => ∃ t : Nat, t ≤ T ∧ s = .int .i64 t) (fun s => T - (intOf s).toNat)
                case atStart => exact ⟨0, by omega, rfl⟩
                case round =>
                  obtain ⟨t, ht, rfl⟩ := hrel
                  by_cases htl : t < ws'.length
                  · obtain ⟨b3, o3, y, A3, c3, hA3, hb3, hy, hc3, hs3, _, _⟩ := HWS'.out.sl htl
                    obtain ⟨rfl, rfl⟩ : b1 = b3 ∧ o1 = o3 := by injection hA3 with hA3; injection hA3 with h1 h2; exact ⟨h1, h2⟩
                    obtain ⟨yi, r, hyl, hyn, hyd, _⟩ := HWK'.out.at_ hvlast (List.mem_of_getElem? hy)
                    obtain ⟨b4, o4', y4, rfl, hb4, hy4, hc4⟩ := hs3.int hyl
                    rw [hyn] at hy4
                    obtain rfl := Option.some.inj hy4
                    have e0 := (hD2.cell (p := ⟨b1, o1 + t, none⟩) hb3).trans hc3
                    have e1 := (hD2.cell (p := ⟨b4, o4' + n, none⟩) hb4).trans hc4
                    have hyl' : (n : Int) < (y.length : Int) := by omega
                    have htl' : decide (t < ws'.length) = true := decide_eq_true htl
                    by_cases htT : t < T
                    · have hq := HTA.out t y htT hy
                      rw [hyd] at hq
                      subst hq
                      clear hA3 hy hc3 hyn hyd hy4 hc4
                      go_wp2_with fail
                      go_round
                      case rel => exact ⟨t + 1, by omega, by go_num⟩
                      case measure => simp [intOf]; omega
                    · obtain rfl : T = t := by omega
                      have hq := HTE.out y hy
                      rw [hyd] at hq
                      have hqb : (yi == (xn : Int)) = false := by simpa using hq
                      clear hA3 hy hc3 hyn hyd hy4 hc4 hq
                      go_wp2_with fail
                      go_meet
                      exact ⟨rfl, rfl⟩
                  · obtain rfl : T = t := by omega
                    have htl' : decide (T < ws'.length) = false := decide_eq_false htl
                    go_wp2_with fail
                    go_meet
                    exact ⟨rfl, rfl⟩
              case rest =>
                obtain ⟨rfl, rfl⟩ := hcut
                have hW2H := hD2.size
                have sbH : bH < W2.heap.size := Nat.lt_of_lt_of_le HE.out.hb.lt hW2H
                have sbh : bh < W2.heap.size := by obtain ⟨b', o', e, h, _⟩ := HE.out.hs (by intro e; have := HE.out.ok.n; have : (potL g).length = g.n.toNat := potS_len g _; rw [e] at this; simp at this; omega); injection e with e; injection e with e; omega
                by_cases hT0 : 0 < T
                · have HS3 : Hid (((lvs g (v : Int)).take (j + 1)).foldl stp (o, ws) = (visitM g f o' tw (n + 1) (tn : Int) (c + l.cost), ws'.drop T)) := by
                    show _ = _
                    rw [HS2.out, if_pos (by intro e; have := HTT.out; rw [e] at this; simp at this; omega)]
                  have hws1 : IntKind.i64.wrap ((n : Int) + 1) = (n : Int) + 1 := IntWalk.i64_in _ (by omega)
                  have hws2 : IntKind.i64.wrap (c + l.cost) = c + l.cost := IntWalk.i64_in _ (by omega)
                  have HC : Hid (∀ W, Below W2.heap.size W2 W → Calls Tryz.prog 92 #[.slice (some ⟨b1, o1, none⟩) T T, .int .i64 ((n : Int) + 1), .int .i64 (tn : Int), .int .i64 (c + l.cost), ptr bL, ptr bH, ptr bF, ptr bG, ptr bV] W fun e w' => e = .returned (.tuple #[]) ∧ VInv w0 bL bV (visV bL bH bF bG bV) w' (visitM g f o' tw (n + 1) (tn : Int) (c + l.cost)) ∧ ButB bL W w') := fun W hW => by
                    have h := IH.out W o' tw (some ⟨b1, o1, none⟩) T (n + 1) tn (c + l.cost) (HI2.out.mono hW) (by rw [← HTK.out]; exact slr_pre HWS'.out T) (by intro e; have := HTT.out; rw [e] at this; simp at this; omega) (by rw [HTT.out]; exact Nat.le_refl _) (by omega)
                      (by
                        have h1 := HWK'.out.next (i := (xn : Int)) (ws' := tw) hvlast (fun w hw => by
                          rw [← HTK.out] at hw
                          obtain ⟨k, hk, rfl⟩ := List.getElem_of_mem hw
                          rw [List.getElem_take]
                          have hk' : k < T := by rw [List.length_take] at hk; omega
                          exact ⟨List.getElem_mem _, HTA.out k _ hk' (List.getElem?_eq_getElem _)⟩)
                        rw [HLK.out, HTN.out] at h1
                        exact h1)
                      htN (by omega) (by omega) (by omega) (by omega)
                    rw [HTT.out] at h
                    exact h
                  have v0 := HI2.out.visit.cell 0
                  have vl := HI2.out.visit.lt
                  have hnV : bV ≠ bL := fun e => hne e.symm
                  have hn8 : t8 ≠ bL := hn8_
                  simp [visV] at v0
                  have hTm : (T : Int) ≤ (wk' : Int) := by omega
                  have hTl' : (T : Int) ≤ (ws'.length : Int) := by omega
                  have hTk : T ≤ wk' := by omega
                  go_upto_region 11 with fail
                  refine ordB_start (ButB bL W2) (.quiet 0 (.quiet 1 (.quiet 2 (.quiet 3 (.quiet 4 (.quiet 5 (.quiet 6 (.quiet 7 (.quiet 8 (.quiet 9 (.quiet 10 (.quiet 11 (.quiet 12 (.only 13 .done)))))))))))))) (by kernel_rfl) (by kernel_rfl) (by kernel_rfl) (fun _ _ _ _ _ h => h) (ButB.of_below (Below.refl _ _).drew) ?_
                  have hB0 : Below W2.heap.size W2 W2.drew := (Below.refl _ _).drew
                  obtain ⟨V0, hV0⟩ : ∃ V, W2.drew = V := ⟨_, rfl⟩
                  rw [hV0] at hB0 ⊢
                  clear hV0
                  iterate 13 (refine ordB_take (v := ?_) rfl rfl ?_ ?_; rotate_left 1; (focus (intro W hW; have hcW := hW.cell; (go_simp <;> with_reducible rfl))); simp only [Act.put, List.setIfInBounds_toArray, List.set_cons_zero, List.set_cons_succ])
                  refine ordB_only (opB_call rfl rfl (fun K hK => ?_))
                  go_simp
                  go_at_call 92
                  refine (HC.out V0 hB0).mono ?_
                  rintro e w9 ⟨rfl, hv9, hbut⟩
                  refine hK.out _ _ ((ButB.of_below hB0).trans hbut) (fun _ => ?_)
                  refine ordB_nil ?_
                  have HV9 := Lib.hid hv9
                  have HB9 := Lib.hid (HBT.out.trans ((ButB.of_below hB0).trans hbut))
                  clear hv9 hbut hB0
                  have HWD : Hid (WOK g n (v : Int) (ws'.drop T)) := fun w hw => HWK'.out w (List.mem_of_mem_drop hw)
                  have hdl : (ws'.drop T).length = ws'.length - T := List.length_drop
                  have HDL := Lib.hid hdl
                  clear hdl
                  have HEX : Hid (∃ b5 o5, (if wk' = T then some (Addr.mk b1 o1 none) else some (Addr.mk b1 (o1 + T) none)) = some (Addr.mk b5 o5 none) ∧ Hid (SlR 1 RSl w0 (some ⟨b5, o5, none⟩) (ws'.drop T))) := by
                    show ∃ _, _
                    by_cases hwT : wk' = T
                    · refine ⟨b1, o1, if_pos hwT, ?_⟩
                      show SlR _ _ _ _ _
                      rw [List.drop_eq_nil_of_le (by omega)]
                      exact SlR.nil
                    · exact ⟨b1, o1 + T, if_neg hwT, slr_drop HWS'.out T⟩
                  go_wp2_with fail
                  go_roundw
                  case rel =>
                    obtain ⟨b5, o5, he, hs5⟩ := HEX.out
                    exact ⟨j + 1, _, _, b5, o5, wk' - T, by omega, HS3, by go_num, by rw [he, HDL.out], hs5, by rw [HDL.out]; omega, by omega, HWD, HV9, HB9.out⟩
                  case measure => simp [intOf]; omega
                · obtain rfl : T = 0 := by omega
                  have htw0 : tw = [] := List.eq_nil_of_length_eq_zero HTT.out
                  have HS3 : Hid (((lvs g (v : Int)).take (j + 1)).foldl stp (o, ws) = if o'.there = false ∨ c + l.cost + hAt g (tn : Int) < o'.cost then (⟨true, c + l.cost + hAt g (tn : Int), x0.take n ++ [(xn : Int)]⟩, ws') else (o', ws')) := by
                    show _ = _
                    rw [HS2.out, if_neg (by rw [htw0]; simp)]
                  have hws1 : IntKind.i64.wrap (c + l.cost) = c + l.cost := IntWalk.i64_in _ (by omega)
                  have hws2 : IntKind.i64.wrap (c + l.cost + hAt g (tn : Int)) = c + l.cost + hAt g (tn : Int) := IntWalk.i64_in _ (by omega)
                  have htN' : (tn : Int) < (N : Int) := by omega
                  clear htw0 HS2
                  generalize hAt g (tn : Int) = ht at *
                  go_upto_region 13 with fail
                  go_cut [18] (fun s18 W => s18 = .int .i64 (c + l.cost + ht) ∧ Below W2.heap.size W2 W)
                  case first =>
                    refine ordB_below (.quiet 0 (.quiet 1 (.quiet 2 (.quiet 3 (.quiet 4 (.quiet 5 (.quiet 6 (.quiet 7 (.quiet 8 (.quiet 9 (.quiet 10 .done))))))))))) (by kernel_rfl) (by kernel_rfl) (by kernel_rfl) (fun _ _ _ _ _ h => h) ?_
                    intro V0 hV0
                    iterate 11 (first
                      | (refine ordB_skip rfl rfl ?_; simp only [Act.put, List.setIfInBounds_toArray, List.set_cons_zero, List.set_cons_succ])
                      | (refine ordB_take (v := ?_) rfl rfl ?_ ?_
                         rotate_left 1
                         focus (intro W hW; obtain ⟨hcW, hfW⟩ := bcell hW; (go_simp <;> with_reducible rfl))
                         simp only [Act.put, List.setIfInBounds_toArray, List.set_cons_zero, List.set_cons_succ]))
                    refine ordB_nil ?_
                    go_wp2_with fail
                    go_meet
                    exact ⟨rfl, hV0⟩
                  case rest =>
                    obtain ⟨W3, rfl⟩ : ∃ W, W = wc := ⟨wc, rfl⟩
                    obtain ⟨rfl, hb3⟩ := hcut
                    have HI3 := Lib.hid (HI2.out.mono hb3)
                    have HBT3 := Lib.hid (HBT.out.trans (ButB.of_below hb3))
                    obtain ⟨AL3, cL3, hL3, hs3, _⟩ := HI3.out.least
                    have l0 := hL3.cell 0
                    have l1 := hL3.cell 1
                    have lf0 := hL3.frozen 0
                    have lf1 := hL3.frozen 1
                    have lf2 := hL3.frozen 2
                    have ll := hL3.lt
                    have l2 := hL3.cell 2
                    simp at l0 l1 l2
                    have hD3 := HI3.out.below
                    have HL3 := Lib.hid hL3
                    clear hs3 hb3 u1 u3 h20 h21 hLl hLb
                    by_cases hcond : o'.there = false ∨ c + l.cost + ht < o'.cost
                    · have HS4 : Hid (((lvs g (v : Int)).take (j + 1)).foldl stp (o, ws) = (⟨true, c + l.cost + ht, x0.take n ++ [(xn : Int)]⟩, ws')) := by show _ = _; rw [HS3.out, if_pos hcond]
                      have hz : (o'.there = false ∧ True) ∨ (o'.there = true ∧ decide (c + l.cost + ht < o'.cost) = true) := by
                        cases h1 : o'.there with
                        | false => exact .inl ⟨rfl, trivial⟩
                        | true => exact .inr ⟨rfl, decide_eq_true (hcond.resolve_left (by rw [h1]; simp))⟩
                      clear hcond HS3
                      go_upto_region 14 with fail
                      go_cut [112] (fun s112 W => s112 = .bool true ∧ W3 = W)
                      case first =>
                        rcases hz with ⟨h1, _⟩ | ⟨h1, z1⟩
                        · rw [h1] at l0
                          clear h1
                          go_wp2_with fail
                          go_meet
                          exact ⟨rfl, rfl⟩
                        · rw [h1] at l0
                          clear h1
                          go_wp2_with fail
                          go_meet
                          exact ⟨rfl, rfl⟩
                      case rest =>
                        obtain ⟨rfl, rfl⟩ := hcut
                        have hnone : Hid (A0 = none → n = 0 ∧ n = 0) := fun h => by
                          have : x0 = [] := Classical.byContradiction fun hne => by obtain ⟨_, _, h2, _⟩ := HS0.out hne; rw [h] at h2; cases h2
                          rw [this] at hnx
                          simp at hnx
                          exact ⟨hnx, hnx⟩
                        have hlo : ((x0.take n).map (Value.int .i64)).length = n * 1 := by simp; omega
                        have holds : Hid (∀ b, A0 = some b → ∀ (j : Nat) (u : Value), ((x0.take n).map (Value.int .i64))[j]? = some u → (W3.alloc (.cells #[.int .i64 (xn : Int)] 3)).cell? (b.add j) = some u) := fun b hb j u hu => by
                          subst hb
                          have hne : x0.take n ≠ [] := by rintro h; rw [h] at hu; simp at hu
                          obtain ⟨b', o', he, hb', hc'⟩ := (slr_take HS0.out n) hne
                          injection he with he
                          subst he
                          rw [List.getElem?_map] at hu
                          cases hj : (x0.take n)[j]? with
                          | none => rw [hj] at hu; cases hu
                          | some y =>
                            rw [hj] at hu
                            obtain rfl := Option.some.inj hu
                            obtain ⟨vs, hr, hl, hv⟩ := hc' j y hj
                            have h0 := hv 0 (.int .i64 y) (by rw [hr]; rfl)
                            rw [add_mk]
                            rw [Nat.mul_one, Nat.add_zero] at h0
                            exact ((Below.refl _ _).alloc (Nat.le_refl _) _ : Below W3.heap.size W3 _).cell (p := ⟨b', o' + j, none⟩) (Nat.lt_of_lt_of_le hb' hD3.size) |>.trans ((hD3.cell (p := ⟨b', o' + j, none⟩) hb').trans h0)
                        have HC1 : Hid (∀ (j : Nat) (u : Value), [Value.int .i64 (xn : Int)][j]? = some u → (W3.alloc (.cells #[.int .i64 (xn : Int)] 3)).cell? ((⟨W3.heap.size, 0, none⟩ : Addr).add j) = some u) := fun j u hj => by
                          match j, hj with
                          | 0, hj => simp at hj; subst hj; rw [add_mk, new_cell]; rfl
                        have HC2 : Hid (∀ u ∈ [Value.int .i64 (xn : Int)], u.oneCell' = true) := fun u hu => by obtain rfl := List.mem_singleton.1 hu; rfl
                        have HW3 : Hid (Below W3.heap.size W3 (W3.alloc (.cells #[.int .i64 (xn : Int)] 3))) := (Below.refl _ _).alloc (Nat.le_refl _) _
                        have hn20 : n + 1 ≤ 2000 := by omega
                        have HN20 := Lib.hid hn20
                        have Hbm : Hid (n + 1 ≤ maxLen) := by show _ ≤ _; unfold maxLen; omega
                        have Hbb : Hid ((n + 1) * 8 ≤ 140737488355328) := by show _ ≤ _; omega
                        go_wp2_with (at_builtin; go_loud (refine wpList_append_grows _ rfl _ _ 40 rfl 3 i0 (.int .i64 0) 1 8 Tryz.underlying40 hi hz0 hz1 hz2 rfl (by decide) A0 n n ((x0.take n).map (Value.int .i64)) rfl hnone.out hlo holds.out ⟨W3.heap.size, 0, none⟩ 1 1 [.int .i64 (xn : Int)] rfl rfl HC1.out HC2.out (by omega) Hbm.out Hbb.out ?_))
                        intro v9 w9 hown9 hgr9
                        have hb9 : Below W3.heap.size W3 w9 := HW3.out.trans ((Below.refl _ _).grown hgr9 (by simp) (fun k hk => by cases hk))
                        have hown9' : w9.ownsRow (W3.heap.size + 1) 3 1 v9 (n + 1) ((x0.take n ++ [(xn : Int)]).map (Value.int .i64)) := by rw [List.map_append]; simpa using hown9
                        have hbl := own_block_le hown9'
                        have hnb : v9.ownBlock ≠ some bL := fun e => by have := hbl _ e; omega
                        have hbl9_ := own_block_le hown9'
                        obtain ⟨A9, c9, rfl, hc9, hcm9, _⟩ := own_ints hown9' (by simp; omega)
                        have m0 := (hb9.cell (p := ⟨bL, 0, none⟩) ll).trans l0
                        have m1 := (hb9.cell (p := ⟨bL, 1, none⟩) ll).trans l1
                        have m2 := (hb9.cell (p := ⟨bL, 2, none⟩) ll).trans l2
                        have mf0 := (hb9.frozen (p := ⟨bL, 0, none⟩) ll).trans lf0
                        have mf1 := (hb9.frozen (p := ⟨bL, 1, none⟩) ll).trans lf1
                        have mf2 := (hb9.frozen (p := ⟨bL, 2, none⟩) ll).trans lf2
                        have hwz := hD3.size
                        have Hbl9 := Lib.hid hbl9_
                        clear hbl9_
                        have HO9 := Lib.hid hown9'
                        have HB9 := Lib.hid hb9
                        clear hown9 hown9' hgr9 hb9 hbl
                        have HVE : Hid (VInv w0 bL bV (visV bL bH bF bG bV) (((w9.setCell ⟨bL, 0, none⟩ (.bool true)).setCell ⟨bL, 1, none⟩ (.int .i64 (c + l.cost + ht))).setCell ⟨bL, 2, none⟩ (.slice A9 (n + 1) c9)) ⟨true, c + l.cost + ht, x0.take n ++ [(xn : Int)]⟩) := by
                          have hbl9 := Hbl9.out
                          have hlen : (x0.take n ++ [(xn : Int)]).length = n + 1 := by simp; omega
                          have hb0 : Blk w9 bL 131 #[.bool o'.there, .int .i64 o'.cost, .slice AL3 o'.links.length cL3] := by
                            have hL4 := HL3.out.below HB9.out ll
                            exact hL4
                          have hr9 := own_set (own_set (own_set HO9.out (a := ⟨bL, 0, none⟩) hnb (.bool true)) (a := ⟨bL, 1, none⟩) hnb (.int .i64 (c + l.cost + ht))) (a := ⟨bL, 2, none⟩) hnb (.slice A9 (n + 1) c9)
                          obtain ⟨A8, c8, he8, _, _, hs8⟩ := own_ints hr9 (by rw [hlen])
                          obtain ⟨rfl, rfl⟩ : A9 = A8 ∧ c9 = c8 := by injection he8 with h1 h2 h3; exact ⟨h1, h3⟩
                          refine ⟨(((HI3.out.below.trans (HB9.out.mono hD3.size)).setCell (p := ⟨bL, 0, none⟩) hbL _).setCell (p := ⟨bL, 1, none⟩) hbL _).setCell (p := ⟨bL, 2, none⟩) hbL _, ⟨A9, c9, ?_, hs8, fun b o hb => by have := hbl9 b (by rw [hb]; rfl); omega⟩, by rw [hlen]; exact HN20.out, ?_⟩
                          · have := ((hb0.set_ 0 (.bool true)).set_ 1 (.int .i64 (c + l.cost + ht))).set_ 2 (.slice A9 (n + 1) c9)
                            dsimp only
                            rw [hlen]
                            simpa using this
                          · have := (((HI3.out.visit.below HB9.out HI3.out.visit.lt).far (p := ⟨bL, 0, none⟩) (fun e => hne e.symm) (.bool true)).far (p := ⟨bL, 1, none⟩) (fun e => hne e.symm) (.int .i64 (c + l.cost + ht))).far (p := ⟨bL, 2, none⟩) (fun e => hne e.symm) (.slice A9 (n + 1) c9)
                            exact this
                        have HBE := Lib.hid ((((HBT3.out.trans (ButB.of_below HB9.out)).set_ 0 (.bool true)).set_ 1 (.int .i64 (c + l.cost + ht))).set_ 2 (.slice A9 (n + 1) c9))
                        go_wp2_with fail
                        go_roundw
                        case rel => exact ⟨j + 1, _, ws', b1, o1, wk', by omega, HS4, by go_num, rfl, HWS', hwl', hwk', HWK', HVE, HBE.out⟩
                        case measure => simp [intOf]; omega
                    · have h1 : o'.there = true := by
                        cases h1 : o'.there with
                        | true => rfl
                        | false => exact absurd (.inl h1) hcond
                      have HS4 : Hid (((lvs g (v : Int)).take (j + 1)).foldl stp (o, ws) = (o', ws')) := by show _ = _; rw [HS3.out, if_neg hcond]
                      have z1 : decide (c + l.cost + ht < o'.cost) = false := decide_eq_false fun h => hcond (.inr h)
                      rw [h1] at l0
                      clear h1 hcond HS3
                      go_wp2_with fail
                      go_roundw
                      case rel => exact ⟨j + 1, o', ws', b1, o1, wk', by omega, HS4, by go_num, rfl, HWS', hwl', hwk', HWK', HI3, HBT3.out⟩
                      case measure => simp [intOf]; omega
          · obtain rfl : j = (lvs g (v : Int)).length := by omega
            have HF : Hid (VInv w0 bL bV (visV bL bH bF bG bV) wr (visitM g (f + 1) o ws n (v : Int) c)) := by
              show VInv _ _ _ _ _ _
              have h1 := HST.out
              rw [List.take_length] at h1
              rw [HR2.out, h1]
              exact HI'.out
            have HBE := Lib.hid hbut
            clear hbut
            go_wp2_with fail
            go_end0
            exact ⟨rfl, HF.out, HBE.out⟩
end Go.Proofs.YtfjkmgjjifhdkaaGreat
