/-
  SiWalkD, SiWalkE, joined. No conditions.
-/
import Derived.Test.YtfpnhgahkjglgaaGreatQ22
import Derived.Test.YtfpnhgahkjglgaaGreatQ06
import Derived.Laws.EntriesVeiled
/-
  The walk of package single: the states of a group are opened.
-/
namespace Go.Proofs.YtfpnhgahkjglgaaGreat
open Go Go.RowKit Go.Maps

/-- Three blocks are as they were. -/
structure Kp3 (a b c : Nat) (w w' : World) : Prop where
  size : w.heap.size ≤ w'.heap.size
  a : w'.heap[a]? = w.heap[a]?
  b : w'.heap[b]? = w.heap[b]?
  c : w'.heap[c]? = w.heap[c]?
theorem Kp3.of_below {a b c : Nat} {w w' : World} (h : Below w.heap.size w w') (ha : a < w.heap.size) (hb : b < w.heap.size) (hc : c < w.heap.size) : Kp3 a b c w w' := ⟨h.size, h.block a ha, h.block b hb, h.block c hc⟩
theorem Kp3.cells {a b c : Nat} {w w' : World} (h : Kp3 a b c w w') : (∀ o, w'.cell? ⟨a, o, none⟩ = w.cell? ⟨a, o, none⟩) ∧ (∀ o, w'.cell? ⟨b, o, none⟩ = w.cell? ⟨b, o, none⟩) ∧ (∀ o, w'.cell? ⟨c, o, none⟩ = w.cell? ⟨c, o, none⟩) :=
  ⟨fun _ => World.cell?_of_block h.a, fun _ => World.cell?_of_block h.b, fun _ => World.cell?_of_block h.c⟩
theorem SrI.gmne {w : World} {gf gm c g : Nat} {s : Sc} {A : Option Addr} {H : Hst Pl} {t : TypeId} {cs : Array Value} (h : SrI w gf gm s A c H) (hk : Blk w g t cs) : g ≠ gm := by
  obtain ⟨n, V, D, _, h2⟩ := h.map
  exact h2.ne hk
/-- A row lies where it lay, or in a new block. -/
def OwnTo (B : Nat) (v v' : Value) : Prop := v'.ownBlock = v.ownBlock ∨ ∃ k, v'.ownBlock = some k ∧ B ≤ k
theorem OwnTo.trans {B B' : Nat} {v v' v2 : Value} (h : OwnTo B v v') (h2 : OwnTo B' v' v2) (hB : B ≤ B') : OwnTo B v v2 := by
  rcases h2 with e | ⟨k, e, hk⟩
  · rcases h with e2 | ⟨k, e2, hk⟩
    · exact .inl (e.trans e2)
    · exact .inr ⟨k, e.trans e2, hk⟩
  · exact .inr ⟨k, e, by omega⟩
/-- What a group's own step may change. -/
def XG (gg : Nat) (v : Value) (k : Nat) : Prop := k = gg ∨ v.ownBlock = some k
theorem OwnTo.x {B gg k : Nat} {v v' : Value} (h : OwnTo B v v') (hk : k < B) (hx : XG gg v' k) : XG gg v k := by
  rcases hx with e | e
  · exact .inl e
  · rcases h with h | ⟨j, h, hj⟩
    · exact .inr (h ▸ e)
    · rw [h] at e
      have := Option.some.inj e
      omega
/-- The state within open. -/
structure StOp (w : World) (gf gm gg : Nat) (s : Sc) (A : Option Addr) (c : Nat) (H0 : Hst Pl) (u : List UInt8) (v0 : Value) (i : Nat) (W : World) (H : Hst Pl) (xs : List (St Pl)) (v : Value) : Prop where
  sr : SrI W gf gm s A c H
  gr : GrI W gm gg u v xs
  op : OpI s H0 H u xs i
  bel : BelS gm (XG gg v0) w.heap.size w W
  own : OwnTo w.heap.size v0 v
section
variable {w W W1 W2 : World} {gf gm gg c i : Nat} {s : Sc} {A : Option Addr} {H0 H : Hst Pl} {u : List UInt8} {v0 v v2 : Value} {xs : List (St Pl)} {y : St Pl}
theorem StOp.below (h : StOp w gf gm gg s A c H0 u v0 i W H xs v) (hb : Below W.heap.size W W1) : StOp w gf gm gg s A c H0 u v0 i W1 H xs v :=
  ⟨h.sr.below hb, h.gr.below hb, h.op, h.bel.trans ((BelS.of_below hb).mono h.bel.size fun _ _ h => h), h.own⟩
theorem StOp.add (h : StOp w gf gm gg s A c H0 u v0 i W H xs v) (hb : Below W.heap.size W W1)
    (ha : SrI W2 gf gm s A c (addH H u y) ∧ GrI W2 gm gg u v2 (if known H y then xs else xs ++ [y]) ∧ BelS gm (fun k => k = gg ∨ v.ownBlock = some k) W1.heap.size W1 W2 ∧ (v2.ownBlock = v.ownBlock ∨ ∃ k, v2.ownBlock = some k ∧ W1.heap.size ≤ k))
    (hy : Two (schA s) u y.l y.r y.g) (hsz : y.g.sz ≤ 8 * H.length + 8) : StOp w gf gm gg s A c H0 u v0 i W2 (addH H u y) (addG H xs y) v2 ∧ KnownAt (addH H u y) y u := by
  obtain ⟨h1, h2, h3, h4⟩ := ha
  obtain ⟨h5, h6⟩ := h.op.add hy hsz
  have hsz := h.bel.size
  have hb1 := hb.size
  exact ⟨⟨h1, h2, h5, (h.bel.trans ((BelS.of_below hb).mono hsz fun _ _ h => h)).trans (h3.mono (by omega) fun k hk hx => h.own.x hk hx), h.own.trans h4 (by omega)⟩, h6⟩
end
/-- What opening a group leaves. -/
def IsOpenS (gf gm gg : Nat) (s : Sc) (A : Option Addr) (c : Nat) (H0 : Hst Pl) (u : List UInt8) (v0 : Value) (w : World) (e : Ending) (w' : World) : Prop :=
  e = .returned (.tuple #[]) ∧ ∃ i H xs v, StOp w gf gm gg s A c H0 u v0 i w' H xs v ∧ xs.length ≤ i
set_option maxRecDepth 100000 in
set_option maxHeartbeats 16000000 in
theorem sopen_any (ws : World) (s : Sc) (A : Option Addr) (c gf gm gg : Nat) (H0 : Hst Pl) (u : List UInt8) (v0 : Value) (xs0 : List (St Pl)) (w : World) (hsc : ScIn ws s A c) (hok : ScOK s) (hgm : ws.heap.size ≤ gm) (hbs : Below gm ws w)
    (hS : SrI w gf gm s A c H0) (hG : GrI w gm gg u v0 xs0) (hO : OpI s H0 H0 u xs0 0) :
    Calls Tryz.prog 58 #[.pointer (some ⟨gf, 0, none⟩), .pointer (some ⟨gg, 0, none⟩)] w (IsOpenS gf gm gg s A c H0 u v0 w) := by
  have hgml : gm < w.heap.size := by have := hS.lt; have := hS.blk.lt; omega
  have HSC : Hid (∀ W, BelS gm (XG gg v0) w.heap.size w W → ScIn W s A c) := fun W hW => hsc.below ((hbs.mono hgm).trans (hW.below (by omega) hgm fun k hk hx => by
    rcases hx with rfl | e
    · have := hG.lt; omega
    · have := own_block_le hG.row k e; omega))
  have HST0 : Hid (StOp w gf gm gg s A c H0 u v0 0 w H0 xs0 v0) := ⟨hS, hG, hO, .refl _ _ _ _, .inl rfl⟩
  have HOK := Lib.hid hok
  have hrl := hsc.len
  clear hsc hok hgm hbs hS hG hO
  go_enter Tryz.func58, Tryz.ntmps58
  go_wp2_with fail
  go_loopw [4] (fun iv wr => ∃ i : Nat, i ≤ 300000 ∧ iv = .int .i64 (i : Int) ∧ ∃ (H : Hst Pl) (xs : List (St Pl)) (v : Value), StOp w gf gm gg s A c H0 u v0 i wr H xs v) (fun iv _ => 300001 - (intOf iv).toNat)
  case atStart => exact ⟨0, by omega, rfl, H0, xs0, v0, HST0.out⟩
  case round =>
    obtain ⟨wR, rfl⟩ : ∃ W, W = wr := ⟨wr, rfl⟩
    obtain ⟨i, hi, rfl, H, xs, v, hst⟩ := hrel
    have hlen := met_len HOK.out hst.op.inv
    have hxl := hst.op.len
    obtain ⟨A1, c1, rfl, hx1, hx2, hx3⟩ := hst.gr.slr
    have HST := Lib.hid hst
    have g1 := hst.gr.blk.cell 1
    have gl := hst.gr.blk.lt
    simp at g1
    clear hst
    by_cases hlt : i < xs.length
    · have hii : (i : Int) < (xs.length : Int) := by omega
      have hi0 : (0 : Int) ≤ (i : Int) := by omega
      obtain ⟨b, off, x, rfl, hbb, hxx, d0, d1, d2, d3, d4, d5, d6⟩ := hx3.sts hlt
      have HXI := Lib.hid hxx
      clear hxx hx3
      go_upto_region 4 with fail
      obtain ⟨gx, hgx⟩ : ∃ g, wR.heap.size = g := ⟨_, rfl⟩
      obtain ⟨W1, hW1⟩ : ∃ W, wR.alloc (.cells #[.int .i64 x.l.1, .string (ba x.l.2), .int .i64 x.r.1, .string (ba x.r.2), .string (ba x.g.a), .string (ba x.g.b), .bool x.g.p] 122) = W := ⟨_, rfl⟩
      have hb1 : Below wR.heap.size wR W1 := by rw [← hW1]; exact nw _ (Below.refl _ _)
      have hX1 : Blk W1 gx 122 #[.int .i64 x.l.1, .string (ba x.l.2), .int .i64 x.r.1, .string (ba x.r.2), .string (ba x.g.a), .string (ba x.g.b), .bool x.g.p] := by rw [← hW1, ← hgx]; exact Blk.new _ _ _
      have hst1 := HST.out.below hb1
      have HST1 := Lib.hid hst1
      have HX1 := Lib.hid hX1
      have HNV1 : Hid ((Value.slice (some ⟨b, off, none⟩) xs.length c1).ownBlock ≠ some gx) := by show _ ≠ _; rw [← hgx]; exact own_lt HST.out.gr.row (Nat.le_refl _)
      have HGX : Hid (w.heap.size ≤ gx ∧ gx ≠ gg) := ⟨by rw [← hgx]; exact HST.out.bel.size, by have := HST.out.gr.blk.lt; omega⟩
      have f2 := hst1.sr.blk.cell 2
      have fl := hst1.sr.blk.lt
      simp at f2
      rw [hW1, hgx]
      clear hW1 hgx hb1 hX1 hst1 d0 d1 d2 d3 d4 d5 d6 hbb g1 gl
      go_wp2_with fail
      go_loopw [31] (fun kv wr => ∃ k : Nat, k ≤ s.rs.length ∧ kv = .int .i64 (k : Int) ∧ ∃ (H : Hst Pl) (xs : List (St Pl)) (v : Value), StOp w gf gm gg s A c H0 u v0 i wr H xs v ∧ xs[i]? = some x ∧ RulesK s H u x k ∧ Blk wr gx 122 #[.int .i64 x.l.1, .string (ba x.l.2), .int .i64 x.r.1, .string (ba x.r.2), .string (ba x.g.a), .string (ba x.g.b), .bool x.g.p] ∧ v.ownBlock ≠ some gx) (fun kv _ => s.rs.length - (intOf kv).toNat)
      case atStart => exact ⟨0, by omega, rfl, H, xs, _, HST1.out, HXI.out, RulesK.zero, HX1.out, HNV1.out⟩
      case round =>
        clear HXI HST HST1 HX1 HNV1 hlt hii hx1 hx2 hlen hxl f2 fl
        obtain ⟨wQ, rfl⟩ : ∃ W, W = wr := ⟨wr, rfl⟩
        obtain ⟨k, hk, rfl, H, xs, v, hst, hxi, hrk, hX, hnv⟩ := hrel
        have HST := Lib.hid hst
        have HXI := Lib.hid hxi
        have HRK := Lib.hid hrk
        have HXQ := Lib.hid hX
        have HNV := Lib.hid hnv
        have hgxq := hX.lt
        have HSQ := Lib.hid (HSC.out _ hst.bel)
        clear hst hxi hrk hX hnv
        by_cases hlt : k < s.rs.length
        · have hki : (k : Int) < (s.rs.length : Int) := by omega
          have hk0 : (0 : Int) ≤ (k : Int) := by omega
          obtain ⟨bb, off', t, rfl, hbb, htt, d0, d1, d2, d3, d4⟩ := (HSQ.out.sl).ru hlt
          have HTK := Lib.hid htt
          have HTO : Hid (t.out.size ≤ 4) := (HOK.out.2.2.2.1 t (List.mem_of_getElem? htt)).2.2.1.1
          clear htt
          go_upto_region 8 with fail
          obtain ⟨gr, hgr⟩ : ∃ g, wQ.heap.size = g := ⟨_, rfl⟩
          obtain ⟨gn, hgn⟩ : ∃ g, gr + 1 = g := ⟨_, rfl⟩
          obtain ⟨X1, hX1⟩ : ∃ W, (wQ.alloc (.cells #[.int .i64 t.fr, .int .i64 t.to, .string t.inp, .string t.out, .int .i64 t.co] 61)).alloc (.cells #[.int .i64 t.to, .string t.inp] 116) = W := ⟨_, rfl⟩
          have hb1 : Below wQ.heap.size wQ X1 := by rw [← hX1]; exact nw _ (nw _ (Below.refl _ _))
          have HRX : Hid (Blk X1 gr 61 #[.int .i64 t.fr, .int .i64 t.to, .string t.inp, .string t.out, .int .i64 t.co]) := by rw [← hX1, ← hgr]; exact (Blk.new _ _ _).alloc _
          have HNX : Hid (Blk X1 gn 116 #[.int .i64 t.to, .string t.inp]) := by rw [← hX1]; exact Blk.new_ (by simp; omega)
          have HXX := Lib.hid (HXQ.out.below hb1 hgxq)
          have HSX := Lib.hid (HST.out.below hb1)
          rw [hX1, hgr, hgn]
          clear hX1 hgr hgn hb1 d0 d1 d2 d3 d4 hbb HST HXQ HSQ hgxq
          have x0 := HXX.out.cell 0
          have x1 := HXX.out.cell 1
          have x2 := HXX.out.cell 2
          have x3 := HXX.out.cell 3
          have x4 := HXX.out.cell 4
          have x5 := HXX.out.cell 5
          have x6 := HXX.out.cell 6
          have r0 := HRX.out.cell 0
          have r1 := HRX.out.cell 1
          have r2 := HRX.out.cell 2
          have r3 := HRX.out.cell 3
          have n0 := HNX.out.cell 0
          have n1 := HNX.out.cell 1
          have hgxl := HXX.out.lt
          have hgrl := HRX.out.lt
          have hgnl := HNX.out.lt
          simp at x0 x1 x2 x3 x4 x5 x6 r0 r1 r2 r3 n0 n1
          go_cut [53] (fun sb W => sb = .bool (decide (x.l = (t.fr, []))) ∧ W = X1)
          case first =>
            by_cases q1 : x.l.2 = []
            · have h1 : (ba x.l.2).toList.isEmpty = true := by rw [q1]; exact ba_emp _
              by_cases q2 : x.l.1 = t.fr
              · have h2 : (x.l.1 == t.fr) = true := by simpa using q2
                have HE : Hid (decide (x.l = (t.fr, [])) = true) := decide_eq_true (Prod.ext q2 q1)
                clear q1 q2
                go_wp2_with fail
                go_meet
                exact ⟨by rw [HE.out], rfl⟩
              · have h2 : (x.l.1 == t.fr) = false := by simpa using q2
                have HE : Hid (decide (x.l = (t.fr, [])) = false) := decide_eq_false fun e => q2 (by rw [e])
                clear q1 q2
                go_wp2_with fail
                go_meet
                exact ⟨by rw [HE.out], rfl⟩
            · have h1 : (ba x.l.2).toList.isEmpty = false := by rw [ba_emp]; simpa using q1
              have HE : Hid (decide (x.l = (t.fr, [])) = false) := decide_eq_false fun e => q1 (by rw [e])
              clear q1
              go_wp2_with fail
              go_meet
              exact ⟨by rw [HE.out], rfl⟩
          case rest =>
            obtain ⟨rfl, hwc⟩ := hcut
            subst hwc
            obtain ⟨X1, rfl⟩ : ∃ W, W = wc := ⟨wc, rfl⟩
            go_upto_if 53 with fail
            go_cut [] (fun W => ∃ (H : Hst Pl) (xs : List (St Pl)) (v : Value), StOp w gf gm gg s (some ⟨bb, off', none⟩) c H0 u v0 i W H xs v ∧ xs[i]? = some x ∧ RulesK s H u x k ∧ (x.l = (t.fr, []) → KnownAt H (stL x t) u) ∧ Blk W gx 122 #[.int .i64 x.l.1, .string (ba x.l.2), .int .i64 x.r.1, .string (ba x.r.2), .string (ba x.g.a), .string (ba x.g.b), .bool x.g.p] ∧ v.ownBlock ≠ some gx ∧ Blk W gr 61 #[.int .i64 t.fr, .int .i64 t.to, .string t.inp, .string t.out, .int .i64 t.co] ∧ Blk W gn 116 #[.int .i64 t.to, .string t.inp])
            case first =>
              cases hE : decide (x.l = (t.fr, [])) with
              | false =>
                have HNE := Lib.hid (of_decide_eq_false hE)
                clear hE
                go_wp2_with fail
                go_meet
                exact ⟨H, xs, v, HSX.out, HXI.out, HRK.out, fun h => absurd h HNE.out, HXX.out, HNV.out, HRX.out, HNX.out⟩
              | true =>
                have HEQ := Lib.hid (of_decide_eq_true hE)
                have HXT := Lib.hid (HSX.out.op.two HXI.out)
                have HLN := Lib.hid (met_len HOK.out HSX.out.op.inv)
                have HNG : Hid (gx ≠ gg ∧ gx ≠ gm) := ⟨HGX.out.2, HSX.out.sr.gmne HXX.out⟩
                clear hE
                have HWD : Hid (∀ {W : World}, Calls Tryz.prog 91 #[.agg #[.string (ba x.g.a), .string (ba x.g.b), .bool x.g.p], .string t.out, .string { data := #[] }] W fun e w' => e = .returned (.agg #[.string (ba (stL x t).g.a), .string (ba (stL x t).g.b), .bool (stL x t).g.p]) ∧ Below W.heap.size W w') := fun {W} => by
                  have := gwider_any x.g (bl t.out) [] W (by have h1 := HXT.out.2; have h2 := HLN.out; have h3 := HTO.out; simp only [bl_len, List.length_nil]; omega)
                  rw [ba_bl] at this
                  exact this
                have HTW := Lib.hid (two_stL HXT.out.1 (List.mem_of_getElem? HTK.out) HEQ.out)
                have HSZ := Lib.hid (sz_stL (n := H.length) HXT.out.2 HTO.out)
                have HAD : Hid (∀ W, Below X1.heap.size X1 W → Calls Tryz.prog 57 #[.pointer (some ⟨gf, 0, none⟩), .pointer (some ⟨gg, 0, none⟩), .agg #[.int .i64 t.to, .string t.inp, .int .i64 x.r.1, .string (ba x.r.2), .string (ba (stL x t).g.a), .string (ba (stL x t).g.b), .bool (stL x t).g.p]] W (IsAddS gf gm gg s (some ⟨bb, off', none⟩) c H u v xs (stL x t) W)) := fun W hW => by
                  have := sadd_any s _ c gf gm gg H u v xs (stL x t) W (HSX.out.sr.below hW) (HSX.out.gr.below hW) (by have := HLN.out; omega) (by have := HSX.out.op.len; have := HLN.out; omega) (HSX.out.op.inv.few _ _) (two_modes HOK.out HTW.out).1 (two_modes HOK.out HTW.out).2
                  rw [show ba (stL x t).l.2 = t.inp from ba_bl _] at this
                  exact this
                obtain ⟨ga, hga⟩ : ∃ b, ba (stL x t).g.a = b := ⟨_, rfl⟩
                obtain ⟨gb, hgb⟩ : ∃ b, ba (stL x t).g.b = b := ⟨_, rfl⟩
                obtain ⟨gp, hgp⟩ : ∃ b, (stL x t).g.p = b := ⟨_, rfl⟩
                rw [hga, hgb, hgp] at HWD HAD
                clear hga hgb hgp
                go_upto_region 9 with fail
                refine ordB_start (Kp3 gx gr gn X1) (.quiet 0 (.quiet 1 (.quiet 2 (.quiet 3 (.quiet 4 (.quiet 5 (.quiet 6 (.quiet 7 (.quiet 8 (.quiet 9 (.quiet 10 (.only 11 (.quiet 12 (.only 13 .done)))))))))))))) (by kernel_rfl) (by kernel_rfl) (by kernel_rfl) (fun _ _ _ _ _ h => h) (Kp3.of_below (Below.refl _ _).drew hgxl hgrl hgnl) ?_
                have hV0 : Kp3 gx gr gn X1 X1.drew := Kp3.of_below (Below.refl _ _).drew hgxl hgrl hgnl
                have hB0 : Below X1.heap.size X1 X1.drew := (Below.refl _ _).drew
                obtain ⟨V0, qqV0⟩ : ∃ W, X1.drew = W := ⟨_, rfl⟩
                rw [qqV0] at hV0 hB0 ⊢
                clear qqV0
                iterate 11 (first
                  | (refine ordB_skip rfl rfl ?_; simp only [Act.put, List.setIfInBounds_toArray, List.set_cons_zero, List.set_cons_succ])
                  | (refine ordB_take (v := ?_) rfl rfl ?_ ?_
                     rotate_left 1
                     focus (intro W hW; obtain ⟨hcA, hcB, hcC⟩ := hW.cells; (go_simp <;> with_reducible rfl))
                     simp only [Act.put, List.setIfInBounds_toArray, List.set_cons_zero, List.set_cons_succ]))
                refine ordB_only (opB_call rfl rfl (fun K hK => ?_))
                go_simp
                go_at_call 91
                refine HWD.out.mono ?_
                rintro e V1 ⟨rfl, hbw⟩
                have hB1 := hB0.trans (hbw.mono hB0.size)
                refine hK.out _ _ (Kp3.of_below hB1 hgxl hgrl hgnl) (fun hV0_1 => ?_)
                clear hK K
                iterate 1 (first
                  | (refine ordB_skip rfl rfl ?_; simp only [Act.put, List.setIfInBounds_toArray, List.set_cons_zero, List.set_cons_succ])
                  | (refine ordB_take (v := ?_) rfl rfl ?_ ?_
                     rotate_left 1
                     focus (intro W hW; obtain ⟨hcA, hcB, hcC⟩ := hW.cells; (go_simp <;> with_reducible rfl))
                     simp only [Act.put, List.setIfInBounds_toArray, List.set_cons_zero, List.set_cons_succ]))
                refine ordB_only (opB_call rfl rfl (fun K hK => ?_))
                go_simp
                go_at_call 57
                refine (HAD.out V1 hB1).mono ?_
                rintro e V2 ⟨rfl, v2, hS2, hG2, hbs2, hat2⟩
                have hgx2 : V2.heap[gx]? = X1.heap[gx]? := (hbs2.block gx (Nat.lt_of_lt_of_le hgxl hB1.size) (fun h => h.elim (fun e => HNG.out.1 e) (fun e => HNV.out e)) (.inr ⟨HNG.out.2, .of_blk (HXX.out.below hB1 hgxl) (by decide)⟩)).trans (hB1.block gx hgxl)
                have hgr2 : V2.heap[gr]? = X1.heap[gr]? := (hbs2.block gr (Nat.lt_of_lt_of_le hgrl hB1.size) (fun h => h.elim (fun e => blk_ne HRX.out HSX.out.gr.blk (by decide) e) (fun e => own_blk_ne HSX.out.gr.row HRX.out (by decide) e)) (.inr ⟨(HSX.out.sr.gmne HRX.out), .of_blk (HRX.out.below hB1 hgrl) (by decide)⟩)).trans (hB1.block gr hgrl)
                have hgn2 : V2.heap[gn]? = X1.heap[gn]? := (hbs2.block gn (Nat.lt_of_lt_of_le hgnl hB1.size) (fun h => h.elim (fun e => blk_ne HNX.out HSX.out.gr.blk (by decide) e) (fun e => own_blk_ne HSX.out.gr.row HNX.out (by decide) e)) (.inr ⟨(HSX.out.sr.gmne HNX.out), .of_blk (HNX.out.below hB1 hgnl) (by decide)⟩)).trans (hB1.block gn hgnl)
                refine hK.out _ _ ⟨Nat.le_trans hB1.size hbs2.size, hgx2, hgr2, hgn2⟩ (fun hV0_1_2 => ?_)
                clear hK K
                refine ordB_nil ?_
                have hst2 := HSX.out.add hB1 ⟨hS2, hG2, hbs2, hat2⟩ HTW.out HSZ.out
                have hst3 := hst2.1
                have HK2 := Lib.hid hst2.2
                have HST2 := Lib.hid hst3
                have HX2 : Hid (Blk V2 gx 122 #[.int .i64 x.l.1, .string (ba x.l.2), .int .i64 x.r.1, .string (ba x.r.2), .string (ba x.g.a), .string (ba x.g.b), .bool x.g.p]) := hgx2.trans HXX.out
                have HR2 : Hid (Blk V2 gr 61 #[.int .i64 t.fr, .int .i64 t.to, .string t.inp, .string t.out, .int .i64 t.co]) := hgr2.trans HRX.out
                have HN2 : Hid (Blk V2 gn 116 #[.int .i64 t.to, .string t.inp]) := hgn2.trans HNX.out
                have HNV2 : Hid (v2.ownBlock ≠ some gx) := fun e => by rcases hat2 with h | ⟨k, h, hk⟩ <;> rw [h] at e <;> first | exact HNV.out e | (have := Option.some.inj e; have := hB1.size; omega)
                clear hst2 hst3 hgx2 hgr2 hgn2 hS2 hG2 hbs2 hat2 hB1 hB0 hbw hV0_1_2
                go_wp2_with fail
                go_meet
                exact ⟨_, _, v2, HST2.out, addG_get HXI.out, HRK.out.mono add_sub, fun _ => HK2.out, HX2.out, HNV2.out, HR2.out, HN2.out⟩
            case rest =>
              clear HXI HRK HNV HXX HSX HRX HNX x0 x1 x2 x3 x4 x5 x6 r0 r1 r2 r3 n0 n1 hgxl hgrl hgnl
              obtain ⟨X2, rfl⟩ : ∃ W, W = wc := ⟨wc, rfl⟩
              obtain ⟨H, xs, v, hst, hxi, hrk, hkl, hx, hnv, hr, hn⟩ := hcut
              have HSX := Lib.hid hst
              have HXI := Lib.hid hxi
              have HRK := Lib.hid hrk
              have HKL := Lib.hid hkl
              have HXX := Lib.hid hx
              have HNV := Lib.hid hnv
              have HRX := Lib.hid hr
              have HNX := Lib.hid hn
              clear hst hxi hrk hkl hx hnv hr hn
              have x0 := HXX.out.cell 0
              have x1 := HXX.out.cell 1
              have x2 := HXX.out.cell 2
              have x3 := HXX.out.cell 3
              have x4 := HXX.out.cell 4
              have x5 := HXX.out.cell 5
              have x6 := HXX.out.cell 6
              have r0 := HRX.out.cell 0
              have r1 := HRX.out.cell 1
              have r2 := HRX.out.cell 2
              have r3 := HRX.out.cell 3
              have n0 := HNX.out.cell 0
              have n1 := HNX.out.cell 1
              have hgxl := HXX.out.lt
              have hgrl := HRX.out.lt
              have hgnl := HNX.out.lt
              simp at x0 x1 x2 x3 x4 x5 x6 r0 r1 r2 r3 n0 n1
              go_upto_region 10 with fail
              go_cut [81] (fun sb W => sb = .bool (decide (x.r = (t.fr, []))) ∧ W = X2)
              case first =>
                by_cases q1 : x.r.2 = []
                · have h1 : (ba x.r.2).toList.isEmpty = true := by rw [q1]; exact ba_emp _
                  by_cases q2 : x.r.1 = t.fr
                  · have h2 : (x.r.1 == t.fr) = true := by simpa using q2
                    have HE : Hid (decide (x.r = (t.fr, [])) = true) := decide_eq_true (Prod.ext q2 q1)
                    clear q1 q2
                    go_wp2_with fail
                    go_meet
                    exact ⟨by rw [HE.out], rfl⟩
                  · have h2 : (x.r.1 == t.fr) = false := by simpa using q2
                    have HE : Hid (decide (x.r = (t.fr, [])) = false) := decide_eq_false fun e => q2 (by rw [e])
                    clear q1 q2
                    go_wp2_with fail
                    go_meet
                    exact ⟨by rw [HE.out], rfl⟩
                · have h1 : (ba x.r.2).toList.isEmpty = false := by rw [ba_emp]; simpa using q1
                  have HE : Hid (decide (x.r = (t.fr, [])) = false) := decide_eq_false fun e => q1 (by rw [e])
                  clear q1
                  go_wp2_with fail
                  go_meet
                  exact ⟨by rw [HE.out], rfl⟩
              case rest =>
                obtain ⟨rfl, hwc⟩ := hcut
                subst hwc
                obtain ⟨X1, rfl⟩ : ∃ W, W = wc := ⟨wc, rfl⟩
                cases hE : decide (x.r = (t.fr, [])) with
                | false =>
                  have HNE := Lib.hid (of_decide_eq_false hE)
                  clear hE
                  go_wp2_with fail
                  go_roundw
                  case rel => exact ⟨k + 1, by omega, by go_num, H, xs, v, HSX.out, HXI.out, HRK.out.next HTK.out HKL.out (fun h => absurd h HNE.out), HXX.out, HNV.out⟩
                  case measure => simp [intOf]; omega
                | true =>
                  have HEQ := Lib.hid (of_decide_eq_true hE)
                  have HXT := Lib.hid (HSX.out.op.two HXI.out)
                  have HLN := Lib.hid (met_len HOK.out HSX.out.op.inv)
                  have HNG : Hid (gx ≠ gg ∧ gx ≠ gm) := ⟨HGX.out.2, HSX.out.sr.gmne HXX.out⟩
                  clear hE
                  have HWD : Hid (∀ {W : World}, Calls Tryz.prog 91 #[.agg #[.string (ba x.g.a), .string (ba x.g.b), .bool x.g.p], .string { data := #[] }, .string t.out] W fun e w' => e = .returned (.agg #[.string (ba (stR x t).g.a), .string (ba (stR x t).g.b), .bool (stR x t).g.p]) ∧ Below W.heap.size W w') := fun {W} => by
                    have := gwider_any x.g [] (bl t.out) W (by have h1 := HXT.out.2; have h2 := HLN.out; have h3 := HTO.out; simp only [bl_len, List.length_nil]; omega)
                    rw [ba_bl] at this
                    exact this
                  have HTW := Lib.hid (two_stR HXT.out.1 (List.mem_of_getElem? HTK.out) HEQ.out)
                  have HSZ := Lib.hid (sz_stR (n := H.length) HXT.out.2 HTO.out)
                  have HAD : Hid (∀ W, Below X1.heap.size X1 W → Calls Tryz.prog 57 #[.pointer (some ⟨gf, 0, none⟩), .pointer (some ⟨gg, 0, none⟩), .agg #[.int .i64 x.l.1, .string (ba x.l.2), .int .i64 t.to, .string t.inp, .string (ba (stR x t).g.a), .string (ba (stR x t).g.b), .bool (stR x t).g.p]] W (IsAddS gf gm gg s (some ⟨bb, off', none⟩) c H u v xs (stR x t) W)) := fun W hW => by
                    have := sadd_any s _ c gf gm gg H u v xs (stR x t) W (HSX.out.sr.below hW) (HSX.out.gr.below hW) (by have := HLN.out; omega) (by have := HSX.out.op.len; have := HLN.out; omega) (HSX.out.op.inv.few _ _) (two_modes HOK.out HTW.out).1 (two_modes HOK.out HTW.out).2
                    rw [show ba (stR x t).r.2 = t.inp from ba_bl _] at this
                    exact this
                  obtain ⟨ga, hga⟩ : ∃ b, ba (stR x t).g.a = b := ⟨_, rfl⟩
                  obtain ⟨gb, hgb⟩ : ∃ b, ba (stR x t).g.b = b := ⟨_, rfl⟩
                  obtain ⟨gp, hgp⟩ : ∃ b, (stR x t).g.p = b := ⟨_, rfl⟩
                  rw [hga, hgb, hgp] at HWD HAD
                  clear hga hgb hgp
                  go_upto_region 11 with fail
                  refine ordB_start (Kp3 gx gr gn X1) (.quiet 0 (.quiet 1 (.quiet 2 (.quiet 3 (.quiet 4 (.quiet 5 (.quiet 6 (.quiet 7 (.quiet 8 (.quiet 9 (.quiet 10 (.only 11 (.quiet 12 (.only 13 .done)))))))))))))) (by kernel_rfl) (by kernel_rfl) (by kernel_rfl) (fun _ _ _ _ _ h => h) (Kp3.of_below (Below.refl _ _).drew hgxl hgrl hgnl) ?_
                  have hV0 : Kp3 gx gr gn X1 X1.drew := Kp3.of_below (Below.refl _ _).drew hgxl hgrl hgnl
                  have hB0 : Below X1.heap.size X1 X1.drew := (Below.refl _ _).drew
                  obtain ⟨V0, qqV0⟩ : ∃ W, X1.drew = W := ⟨_, rfl⟩
                  rw [qqV0] at hV0 hB0 ⊢
                  clear qqV0
                  iterate 11 (first
                    | (refine ordB_skip rfl rfl ?_; simp only [Act.put, List.setIfInBounds_toArray, List.set_cons_zero, List.set_cons_succ])
                    | (refine ordB_take (v := ?_) rfl rfl ?_ ?_
                       rotate_left 1
                       focus (intro W hW; obtain ⟨hcA, hcB, hcC⟩ := hW.cells; (go_simp <;> with_reducible rfl))
                       simp only [Act.put, List.setIfInBounds_toArray, List.set_cons_zero, List.set_cons_succ]))
                  refine ordB_only (opB_call rfl rfl (fun K hK => ?_))
                  go_simp
                  go_at_call 91
                  refine HWD.out.mono ?_
                  rintro e V1 ⟨rfl, hbw⟩
                  have hB1 := hB0.trans (hbw.mono hB0.size)
                  refine hK.out _ _ (Kp3.of_below hB1 hgxl hgrl hgnl) (fun hV0_1 => ?_)
                  clear hK K
                  iterate 1 (first
                    | (refine ordB_skip rfl rfl ?_; simp only [Act.put, List.setIfInBounds_toArray, List.set_cons_zero, List.set_cons_succ])
                    | (refine ordB_take (v := ?_) rfl rfl ?_ ?_
                       rotate_left 1
                       focus (intro W hW; obtain ⟨hcA, hcB, hcC⟩ := hW.cells; (go_simp <;> with_reducible rfl))
                       simp only [Act.put, List.setIfInBounds_toArray, List.set_cons_zero, List.set_cons_succ]))
                  refine ordB_only (opB_call rfl rfl (fun K hK => ?_))
                  go_simp
                  go_at_call 57
                  refine (HAD.out V1 hB1).mono ?_
                  rintro e V2 ⟨rfl, v2, hS2, hG2, hbs2, hat2⟩
                  have hgx2 : V2.heap[gx]? = X1.heap[gx]? := (hbs2.block gx (Nat.lt_of_lt_of_le hgxl hB1.size) (fun h => h.elim (fun e => HNG.out.1 e) (fun e => HNV.out e)) (.inr ⟨HNG.out.2, .of_blk (HXX.out.below hB1 hgxl) (by decide)⟩)).trans (hB1.block gx hgxl)
                  have hgr2 : V2.heap[gr]? = X1.heap[gr]? := (hbs2.block gr (Nat.lt_of_lt_of_le hgrl hB1.size) (fun h => h.elim (fun e => blk_ne HRX.out HSX.out.gr.blk (by decide) e) (fun e => own_blk_ne HSX.out.gr.row HRX.out (by decide) e)) (.inr ⟨(HSX.out.sr.gmne HRX.out), .of_blk (HRX.out.below hB1 hgrl) (by decide)⟩)).trans (hB1.block gr hgrl)
                  have hgn2 : V2.heap[gn]? = X1.heap[gn]? := (hbs2.block gn (Nat.lt_of_lt_of_le hgnl hB1.size) (fun h => h.elim (fun e => blk_ne HNX.out HSX.out.gr.blk (by decide) e) (fun e => own_blk_ne HSX.out.gr.row HNX.out (by decide) e)) (.inr ⟨(HSX.out.sr.gmne HNX.out), .of_blk (HNX.out.below hB1 hgnl) (by decide)⟩)).trans (hB1.block gn hgnl)
                  refine hK.out _ _ ⟨Nat.le_trans hB1.size hbs2.size, hgx2, hgr2, hgn2⟩ (fun hV0_1_2 => ?_)
                  clear hK K
                  refine ordB_nil ?_
                  have hst2 := HSX.out.add hB1 ⟨hS2, hG2, hbs2, hat2⟩ HTW.out HSZ.out
                  have hst3 := hst2.1
                  have HK2 := Lib.hid hst2.2
                  have HST2 := Lib.hid hst3
                  have HX2 : Hid (Blk V2 gx 122 #[.int .i64 x.l.1, .string (ba x.l.2), .int .i64 x.r.1, .string (ba x.r.2), .string (ba x.g.a), .string (ba x.g.b), .bool x.g.p]) := hgx2.trans HXX.out
                  have HR2 : Hid (Blk V2 gr 61 #[.int .i64 t.fr, .int .i64 t.to, .string t.inp, .string t.out, .int .i64 t.co]) := hgr2.trans HRX.out
                  have HN2 : Hid (Blk V2 gn 116 #[.int .i64 t.to, .string t.inp]) := hgn2.trans HNX.out
                  have HNV2 : Hid (v2.ownBlock ≠ some gx) := fun e => by rcases hat2 with h | ⟨k, h, hk⟩ <;> rw [h] at e <;> first | exact HNV.out e | (have := Option.some.inj e; have := hB1.size; omega)
                  clear hst2 hst3 hgx2 hgr2 hgn2 hS2 hG2 hbs2 hat2 hB1 hB0 hbw hV0_1_2
                  go_wp2_with fail
                  go_roundw
                  case rel => exact ⟨k + 1, by omega, by go_num, _, _, v2, HST2.out, addG_get HXI.out, (HRK.out.mono add_sub).next HTK.out (fun h => (HKL.out h).mono add_sub) (fun _ => HK2.out), HX2.out, HNV2.out⟩
                  case measure => simp [intOf]; omega
        · obtain rfl : k = s.rs.length := by omega
          have hki : ¬ ((s.rs.length : Nat) : Int) < (s.rs.length : Int) := by omega
          go_wp2_with fail
          go_roundw
          case rel => exact ⟨i + 1, by have h1 := met_len HOK.out HST.out.op.inv; have h2 := HST.out.op.len; have h3 := (List.getElem?_eq_some_iff.1 HXI.out).1; omega, by go_num, H, xs, v, HST.out.sr, HST.out.gr, HST.out.op.next HXI.out HRK.out, HST.out.bel, HST.out.own⟩
          case measure => simp [intOf]; omega
    · have hii : ¬ (i : Int) < (xs.length : Int) := by omega
      go_wp2_with fail
      go_end0
      exact ⟨rfl, i, H, xs, _, HST.out, by omega⟩
end Go.Proofs.YtfpnhgahkjglgaaGreat

/-
  The walk of package single: whether the letters of a group have two outputs.
-/
namespace Go.Proofs.YtfpnhgahkjglgaaGreat
open Go Go.RowKit Go.Maps

set_option maxRecDepth 100000 in
set_option maxHeartbeats 8000000 in
theorem stw1_any (s : Sc) (A : Option Addr) (c gf gm gc : Nat) (x : St Pl) (w : World) (hS : Blk w gf 109 #[.int .i64 s.n, .int .u8 s.acc, .slice A s.rs.length c, .map (some gm)]) (hC : Blk w gc 106 #[.pointer (some ⟨gf, 0, none⟩)]) (hacc : 0 ≤ s.acc ∧ s.acc ≤ 255) (hl : 0 ≤ x.l.1 ∧ x.l.1 < 8) (hr : 0 ≤ x.r.1 ∧ x.r.1 < 8) :
    Calls Tryz.prog 93 #[.agg #[.int .i64 x.l.1, .string (ba x.l.2), .int .i64 x.r.1, .string (ba x.r.2), .string (ba x.g.a), .string (ba x.g.b), .bool x.g.p], .pointer (some ⟨gc, 0, none⟩)] w fun e w' => e = .returned (.bool (ends (schA s) x)) ∧ Below w.heap.size w w' := by
  obtain ⟨w1, hw1⟩ : ∃ w1, w.alloc (.cells #[.int .i64 x.l.1, .string (ba x.l.2), .int .i64 x.r.1, .string (ba x.r.2), .string (ba x.g.a), .string (ba x.g.b), .bool x.g.p] 122) = w1 := ⟨_, rfl⟩
  have hb1 : Below w.heap.size w w1 := by rw [← hw1]; exact nw _ (Below.refl _ _)
  have hB : Blk w1 w.heap.size 122 #[.int .i64 x.l.1, .string (ba x.l.2), .int .i64 x.r.1, .string (ba x.r.2), .string (ba x.g.a), .string (ba x.g.b), .bool x.g.p] := by rw [← hw1]; exact Blk.new _ _ _
  have hC1 := hC.below hb1 hC.lt
  have HW1 := Lib.hid hw1
  have HB1 := Lib.hid hb1
  have HD : Hid (∀ W, Below w1.heap.size w1 W → Calls Tryz.prog 94 #[.agg #[.string (ba x.g.a), .string (ba x.g.b), .bool x.g.p]] W fun e w' => e = .returned (.bool (!decide (x.g = Gp.none_))) ∧ Below W.heap.size W w') := fun W _ => gdiffer_any x.g W
  have HE1 : Hid (∀ W, Below w1.heap.size w1 W → Calls Tryz.prog 95 #[.pointer (some ⟨gf, 0, none⟩), .agg #[.int .i64 x.l.1, .string (ba x.l.2)]] W fun e w' => e = .returned (.bool ((schA s).acc x.l)) ∧ Below W.heap.size W w') := fun W hW => sended_any s A c gf gm x.l W ((hS.below hb1 hS.lt).below hW (Nat.lt_of_lt_of_le hS.lt hb1.size)) hacc hl
  have HE2 : Hid (∀ W, Below w1.heap.size w1 W → Calls Tryz.prog 95 #[.pointer (some ⟨gf, 0, none⟩), .agg #[.int .i64 x.r.1, .string (ba x.r.2)]] W fun e w' => e = .returned (.bool ((schA s).acc x.r)) ∧ Below W.heap.size W w') := fun W hW => sended_any s A c gf gm x.r W ((hS.below hb1 hS.lt).below hW (Nat.lt_of_lt_of_le hS.lt hb1.size)) hacc hr
  have hEN : ends (schA s) x = (!decide (x.g = Gp.none_) && (schA s).acc x.l && (schA s).acc x.r) := rfl
  obtain ⟨d, hd⟩ : ∃ b, (!decide (x.g = Gp.none_)) = b := ⟨_, rfl⟩
  obtain ⟨a, ha⟩ : ∃ b, (schA s).acc x.l = b := ⟨_, rfl⟩
  obtain ⟨b, hb⟩ : ∃ b, (schA s).acc x.r = b := ⟨_, rfl⟩
  rw [hd] at HD hEN
  rw [ha] at HE1 hEN
  rw [hb] at HE2 hEN
  have HEN := Lib.hid hEN
  have HCE : Hid (∀ W, Below w1.heap.size w1 W → W.cell? ⟨w.heap.size, 0, none⟩ = some (.int .i64 x.l.1) ∧ W.cell? ⟨w.heap.size, 1, none⟩ = some (.string (ba x.l.2)) ∧ W.cell? ⟨w.heap.size, 2, none⟩ = some (.int .i64 x.r.1) ∧ W.cell? ⟨w.heap.size, 3, none⟩ = some (.string (ba x.r.2)) ∧ w.heap.size < W.heap.size ∧ W.cell? ⟨gc, 0, none⟩ = some (.pointer (some ⟨gf, 0, none⟩)) ∧ gc < W.heap.size) := fun W hW => by
    have e1 := hB.below hW hB.lt
    have e2 := hC1.below hW hC1.lt
    exact ⟨by rw [e1.cell]; rfl, by rw [e1.cell]; rfl, by rw [e1.cell]; rfl, by rw [e1.cell]; rfl, e1.lt, by rw [e2.cell]; rfl, e2.lt⟩
  have x0 := hB.cell 0
  have x1 := hB.cell 1
  have x2 := hB.cell 2
  have x3 := hB.cell 3
  have x4 := hB.cell 4
  have x5 := hB.cell 5
  have x6 := hB.cell 6
  have xl := hB.lt
  have c0 := hC1.cell 0
  have cl := hC1.lt
  simp at x0 x1 x2 x3 x4 x5 x6 c0
  clear hw1 hb1 hB hC hC1 hS hd ha hb hEN
  cases d with
  | false =>
    go_enter Tryz.func93, Tryz.ntmps93
    go_upto_region 1 with fail
    rw [HW1.out]
    go_wp2_with (go_at_call 94; go_loud (refine (HD.out _ (Below.refl _ _)).mono ?_; rintro e W2 ⟨rfl, hb2⟩))
    go_ret
    exact ⟨by rw [HEN.out]; rfl, bthen HB1.out hb2⟩
  | true =>
    cases a with
    | false =>
      go_enter Tryz.func93, Tryz.ntmps93
      go_upto_region 1 with fail
      rw [HW1.out]
      go_wp2_with (first | (go_at_call 94; go_loud (refine (HD.out _ (Below.refl _ _)).mono ?_; rintro e W2 ⟨rfl, hb2⟩; obtain ⟨x0, x1, x2, x3, xl, c0, cl⟩ := HCE.out _ hb2)) | (go_at_call 95; go_loud (refine (HE1.out _ hb2).mono ?_; rintro e W3 ⟨rfl, hb3⟩)))
      go_ret
      exact ⟨by rw [HEN.out]; rfl, bthen HB1.out (bthen hb2 hb3)⟩
    | true =>
      go_enter Tryz.func93, Tryz.ntmps93
      go_upto_region 1 with fail
      rw [HW1.out]
      go_wp2_with (first | (go_at_call 94; go_loud (refine (HD.out _ (Below.refl _ _)).mono ?_; rintro e W2 ⟨rfl, hb2⟩; obtain ⟨x0, x1, x2, x3, xl, c0, cl⟩ := HCE.out _ hb2)) | (go_at_call 95; go_loud (first | (with_reducible refine (HE2.out _ (hb2.trans (hb3.mono hb2.size))).mono ?_; rintro e W4 ⟨rfl, hb4⟩) | (with_reducible refine (HE1.out _ hb2).mono ?_; rintro e W3 ⟨rfl, hb3⟩; obtain ⟨x0, x1, x2, x3, xl, c0, cl⟩ := HCE.out _ (hb2.trans (hb3.mono hb2.size))))))
      go_ret
      exact ⟨by rw [HEN.out]; rfl, bthen HB1.out (bthen (bthen hb2 hb3) hb4)⟩
/-- The index of the first state that ends, or -1. -/
def ixE (A : Aut Pl) (xs : List (St Pl)) : Int := if xs.any (ends A) = true then (xs.findIdx (ends A) : Int) else -1
theorem ixE_neg {A : Aut Pl} {xs : List (St Pl)} (h : xs.any (ends A) = false) : ixE A xs = -1 := if_neg (by rw [h]; decide)
theorem ixE_at {A : Aut Pl} {xs : List (St Pl)} {k : Nat} {p : St Pl} (h : (xs.take k).any (ends A) = false) (hp : xs[k]? = some p) (ha : ends A p = true) : ixE A xs = (k : Int) := by
  obtain ⟨hk, rfl⟩ := List.getElem?_eq_some_iff.1 hp
  unfold ixE
  rw [if_pos (List.any_eq_true.2 ⟨_, List.getElem_mem hk, ha⟩)]
  congr 1
  rw [List.findIdx_eq hk]
  refine ⟨ha, fun j hj => ?_⟩
  rw [List.any_eq_false] at h
  have := h xs[j] (List.mem_take_iff_getElem.2 ⟨j, by omega, rfl⟩)
  simpa using this
theorem ixE_iff {A : Aut Pl} {xs : List (St Pl)} : 0 ≤ ixE A xs ↔ xs.any (ends A) = true := by
  unfold ixE
  split
  · rename_i h; simp [h]
  · rename_i h; constructor
    · intro h2; omega
    · intro h2; exact absurd h2 h
set_option maxRecDepth 100000 in
set_option maxHeartbeats 8000000 in
theorem sindex_any (s : Sc) (A : Option Addr) (c gf gm gc : Nat) (B : Option Addr) (xs : List (St Pl)) (cx : Nat) (w : World) (hx : SlR 7 RSt w B xs) (hxl : xs.length ≤ 1000000) (hS : Blk w gf 109 #[.int .i64 s.n, .int .u8 s.acc, .slice A s.rs.length c, .map (some gm)]) (hC : Blk w gc 106 #[.pointer (some ⟨gf, 0, none⟩)]) (hacc : 0 ≤ s.acc ∧ s.acc ≤ 255)
    (hm : ∀ x ∈ xs, (0 ≤ x.l.1 ∧ x.l.1 < 8) ∧ 0 ≤ x.r.1 ∧ x.r.1 < 8) :
    Calls Tryz.prog 116 #[.slice B xs.length cx, .func (.func 93) #[] #[.pointer (some ⟨gc, 0, none⟩)]] w fun e w' => e = .returned (.int .i64 (ixE (schA s) xs)) ∧ Below w.heap.size w w' := by
  have HC : Hid (∀ (W : World) (x : St Pl), x ∈ xs → Below w.heap.size w W → Calls Tryz.prog 93 #[.agg #[.int .i64 x.l.1, .string (ba x.l.2), .int .i64 x.r.1, .string (ba x.r.2), .string (ba x.g.a), .string (ba x.g.b), .bool x.g.p], .pointer (some ⟨gc, 0, none⟩)] W fun e w' => e = .returned (.bool (ends (schA s) x)) ∧ Below W.heap.size W w') :=
    fun W x hx hW => stw1_any s A c gf gm gc x W (hS.below hW hS.lt) (hC.below hW hC.lt) hacc (hm x hx).1 (hm x hx).2
  clear hS hC hm
  go_enter Tryz.func116, Tryz.ntmps116
  go_wp2_with fail
  go_loopw [8] (fun i wr => ∃ k : Nat, k ≤ xs.length ∧ Hid ((xs.take k).any (ends (schA s)) = false) ∧ i = .int .i64 k ∧ Below w.heap.size w wr) (fun i _ => xs.length - (intOf i).toNat)
  case atStart => exact ⟨0, by omega, (by show (xs.take 0).any _ = _; simp), rfl, Below.refl _ _⟩
  case round =>
    obtain ⟨k, hk, HS, rfl, hbr⟩ := hrel
    by_cases hlt : k < xs.length
    · obtain ⟨b, off, p, rfl, hbb, hee, d0, d1, d2, d3, d4, d5, d6⟩ := (hx.below keeps_st hbr).sts hlt
      have HL := Lib.hid hee
      have HC2 := Lib.hid (HC.out wr p (List.mem_of_getElem? hee) hbr)
      have hki : (k : Int) < (xs.length : Int) := by omega
      have hk0 : (0 : Int) ≤ (k : Int) := by omega
      obtain ⟨v, hv⟩ : ∃ v, ends (schA s) p = v := ⟨_, rfl⟩
      rw [hv] at HC2
      have HV := Lib.hid hv
      have HBr := Lib.hid hbr
      clear hee hv hbr
      cases v with
      | true =>
        have HR : Hid (ixE (schA s) xs = (k : Int)) := ixE_at HS.out HL.out HV.out
        go_wp2_with (go_at_call 93; go_loud (refine HC2.out.mono ?_; rintro e' w3 ⟨rfl, hb3⟩))
        go_ret
        exact ⟨by rw [HR.out]; rfl, bthen HBr.out hb3⟩
      | false =>
        have HES : Hid ((xs.take (k + 1)).any (ends (schA s)) = false) := by
          show _ = _
          rw [take_succ_of HL.out, List.any_append, HS.out]
          simp [HV.out]
        go_wp2_with (go_at_call 93; go_loud (refine HC2.out.mono ?_; rintro e' w3 ⟨rfl, hb3⟩))
        go_roundw
        case rel => exact ⟨k + 1, by omega, HES.out, by go_num, bthen HBr.out hb3⟩
        case measure => simp [intOf]; omega
    · have HR : Hid (ixE (schA s) xs = -1) := by
        show _ = _
        have := HS.out
        rw [List.take_of_length_le (by omega)] at this
        exact ixE_neg this
      have hki : ¬ (k : Int) < (xs.length : Int) := by omega
      go_wp2_with fail
      go_ret
      exact ⟨by rw [HR.out]; rfl, hbr⟩
set_option maxRecDepth 100000 in
set_option maxHeartbeats 8000000 in
theorem scontf_any (s : Sc) (A : Option Addr) (c gf gm gc : Nat) (B : Option Addr) (xs : List (St Pl)) (cx : Nat) (w : World) (hx : SlR 7 RSt w B xs) (hxl : xs.length ≤ 1000000) (hS : Blk w gf 109 #[.int .i64 s.n, .int .u8 s.acc, .slice A s.rs.length c, .map (some gm)]) (hC : Blk w gc 106 #[.pointer (some ⟨gf, 0, none⟩)]) (hacc : 0 ≤ s.acc ∧ s.acc ≤ 255)
    (hm : ∀ x ∈ xs, (0 ≤ x.l.1 ∧ x.l.1 < 8) ∧ 0 ≤ x.r.1 ∧ x.r.1 < 8) :
    Calls Tryz.prog 92 #[.slice B xs.length cx, .func (.func 93) #[] #[.pointer (some ⟨gc, 0, none⟩)]] w fun e w' => e = .returned (.bool (xs.any (ends (schA s)))) ∧ Below w.heap.size w w' := by
  have HC := Lib.hid (sindex_any s A c gf gm gc B xs cx w hx hxl hS hC hacc hm)
  have hd : xs.any (ends (schA s)) = decide (0 ≤ ixE (schA s) xs) := by rw [Bool.eq_iff_iff, decide_eq_true_iff, ixE_iff]
  rw [hd]
  generalize ixE (schA s) xs = v at *
  clear hS hC hm hx hd
  go_enter Tryz.func92, Tryz.ntmps92
  go_wp2_with (go_at_call 116; go_loud (refine HC.out.mono ?_; rintro e w' ⟨rfl, hb2⟩))
  go_ret
  exact ⟨rfl, hb2⟩
set_option maxRecDepth 100000 in
set_option maxHeartbeats 8000000 in
theorem stwice_any (s : Sc) (A : Option Addr) (c gf gm gg : Nat) (u : List UInt8) (v : Value) (xs : List (St Pl)) (w : World) (hS : Blk w gf 109 #[.int .i64 s.n, .int .u8 s.acc, .slice A s.rs.length c, .map (some gm)]) (hG : GrI w gm gg u v xs) (hxl : xs.length ≤ 1000000) (hacc : 0 ≤ s.acc ∧ s.acc ≤ 255)
    (hm : ∀ x ∈ xs, (0 ≤ x.l.1 ∧ x.l.1 < 8) ∧ 0 ≤ x.r.1 ∧ x.r.1 < 8) :
    Calls Tryz.prog 59 #[.pointer (some ⟨gf, 0, none⟩), .pointer (some ⟨gg, 0, none⟩)] w fun e w' => e = .returned (.bool (xs.any (ends (schA s)))) ∧ Below w.heap.size w w' := by
  obtain ⟨w1, hw1⟩ : ∃ w1, w.alloc (.cells #[.pointer (some ⟨gf, 0, none⟩)] 106) = w1 := ⟨_, rfl⟩
  obtain ⟨gc, hgc⟩ : ∃ g, w.heap.size = g := ⟨_, rfl⟩
  have hb1 : Below w.heap.size w w1 := by rw [← hw1]; exact nw _ (Below.refl _ _)
  have hB : Blk w1 gc 106 #[.pointer (some ⟨gf, 0, none⟩)] := by rw [← hw1, ← hgc]; exact Blk.new _ _ _
  have hG1 := hG.below hb1
  obtain ⟨B, cx, rfl, hx1, hx2, hx3⟩ := hG1.slr
  have HC := Lib.hid (scontf_any s A c gf gm gc B xs cx w1 hx3 hxl (hS.below hb1 hS.lt) hB hacc hm)
  have HW1 := Lib.hid hw1
  have HB1 := Lib.hid hb1
  have HGC := Lib.hid hgc
  have g1 := hG1.blk.cell 1
  have gl := hG1.blk.lt
  have c0 := hB.cell 0
  have cl := hB.lt
  simp at g1 c0
  generalize xs.any (ends (schA s)) = q at *
  clear hw1 hb1 hB hG hG1 hS hm hx3 hgc
  go_enter Tryz.func59, Tryz.ntmps59
  go_upto_region 1 with fail
  rw [HW1.out, HGC.out]
  go_wp2_with (go_at_call 92; go_loud (refine HC.out.mono ?_; rintro e w' ⟨rfl, hb2⟩))
  go_ret
  exact ⟨rfl, bthen HB1.out hb2⟩
end Go.Proofs.YtfpnhgahkjglgaaGreat
