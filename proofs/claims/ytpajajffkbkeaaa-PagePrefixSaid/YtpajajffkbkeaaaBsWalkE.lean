/-
  The walks of layer 15: a way finished by the first ways from its end.
-/
import Derived.Test.YtpajajffkbkeaaaBsWalkD
namespace Go.Proofs.Ytpajajffkbkeaaa
open Go Go.RowKit

/-- A table in memory, whatever lies beside it. -/
structure TabW (g : Gr) (N : Nat) (A : Option Addr) (c bt gl gf : Nat) (W : World) : Prop where
  t : Blk W bt 99 #[.int .i64 (N : Int), .slice A g.ls.length c, .slice (some ⟨gl, 0, none⟩) N N, .slice (some ⟨gf, 0, none⟩) N N]
  ls : SlR 4 RLk W A g.ls
  l : Row W gl (potL g)
  f : SlR 1 RSl W (some ⟨gf, 0, none⟩) (frAll g N)
section
variable {g : Gr} {N : Nat} {A : Option Addr} {c bt gl gf : Nat} {w W : World}
theorem TabW.below (h : TabW g N A c bt gl gf w) (hb : Below w.heap.size w W) : TabW g N A c bt gl gf W := ⟨h.t.below hb h.t.lt, h.ls.below keeps_lk hb, Row.below h.l hb h.l.lt, h.f.below keeps_sl hb⟩
/-- The links of a node, in order. -/
theorem TabW.at_ (h : TabW g N A c bt gl gf w) {v : Nat} (hv : v < N) : ∃ B k, w.cell? ⟨gf, v, none⟩ = some (.slice B (frL g (v : Int)).length k) ∧ gf < w.heap.size ∧ SlR 1 RInt w B (frL g (v : Int)) ∧ (frL g (v : Int)).length ≤ k ∧ k ≤ maxLen := by
  obtain ⟨b, o, x, B, k, he, hb, hx, hc, hs, h1, h2⟩ := h.f.sl (k := v) (by rw [frAll_len]; exact hv)
  rw [frAll_at g hv] at hx
  obtain rfl := Option.some.inj hx
  obtain ⟨rfl, rfl⟩ : gf = b ∧ 0 = o := by injection he with he; injection he with h1 h2; exact ⟨h1, h2⟩
  rw [Nat.zero_add] at hc
  exact ⟨B, k, hc, hb, hs, h1, h2⟩
end
theorem frL_lenb {g : Gr} (hg : GrOK g) (v : Int) : (frL g v).length ≤ 20000 := Nat.le_trans frL_len (lvs_len hg v)
set_option maxRecDepth 100000 in
set_option maxHeartbeats 8000000 in
theorem finish_any (A : Option Addr) (c N bt gl gf B nd : Nat) (g : Gr) (hg : GrOK g) (hN : g.n = (N : Int)) (v : Value) (hd : List Int) (w : World) (hB : B ≤ w.heap.size)
    (HT : Hid (∀ W, Below B w W → TabW g N A c bt gl gf W)) (hown : w.ownsRow B 3 1 v hd.length (hd.map (Value.int .i64))) (hnd : nd < N) (hh : 0 ≤ hAt g (nd : Int)) (hlen : hd.length ≤ nd) :
    Calls Try.prog 54 #[.pointer (some ⟨bt, 0, none⟩), v, .int .i64 (nd : Int)] w fun e w' => ∃ v', e = .returned v' ∧ w'.ownsRow B 3 1 v' (hd ++ bw g (nd : Int)).length ((hd ++ bw g (nd : Int)).map (Value.int .i64)) ∧ Below B w w' := by
  obtain ⟨i0, hi, hz0, hz1, hz2⟩ := info_parts bint_inf
  have hn := hg.n
  rw [hN] at hn
  have HO : Hid (w.ownsRow B 3 1 v hd.length (hd.map (Value.int .i64))) := hown
  have HG := Lib.hid hg
  have HN := Lib.hid hN
  clear hg hN hown
  go_enter Try.func54, Try.ntmps54
  go_wp2_with fail
  go_loopw [1, 2] (fun hv nv wr => ∃ (dn : List Int) (k : Nat), nv = .int .i64 (k : Int) ∧ Hid (wr.ownsRow B 3 1 hv dn.length (dn.map (Value.int .i64))) ∧ Hid (hd ++ bw g (nd : Int) = dn ++ bw g (k : Int)) ∧ k < N ∧ Hid (0 ≤ hAt g (k : Int)) ∧ dn.length ≤ k ∧ Below B w wr) (fun _ nv _ => N - (intOf nv).toNat)
  case atStart => exact ⟨hd, nd, rfl, HO, rfl, hnd, hh, hlen, Below.refl _ _⟩
  case round =>
    obtain ⟨dn, k, rfl, HOr, HE, hkN, HH, hdk, hbr⟩ := hrel
    have hT := HT.out wr hbr
    have t0 := hT.t.cell 0
    have t1 := hT.t.cell 1
    have t3 := hT.t.cell 3
    simp at t0 t1 t3
    have tl := hT.t.lt
    by_cases hlt : k + 1 < N
    · have hk1 : (k : Int) < g.n - 1 := by have := HN.out; omega
      obtain ⟨x0, r0, hfr⟩ : ∃ x r, frL g (k : Int) = x :: r := by
        cases h : frL g (k : Int) with
        | nil => have := (frL_nil HG.out (by omega) hk1).1 h; have := HH.out; omega
        | cons x r => exact ⟨x, r, rfl⟩
      obtain ⟨Bk, ck, f0, fl, hs, hl1, hl2⟩ := hT.at_ hkN
      have hlpos : 0 < (frL g (k : Int)).length := by rw [hfr]; simp
      have hlpos' : (0 : Int) < ((frL g (k : Int)).length : Int) := by omega
      obtain ⟨bx, ox, x0', rfl, hbx, hxx, hcx⟩ := hs.int (k := 0) hlpos
      have e0 : x0 = x0' := by rw [hfr] at hxx; simpa using hxx
      subst e0
      rw [Nat.add_zero] at hcx
      have hlk := frL_link HG.out (show x0 ∈ frL g (k : Int) by rw [hfr]; simp)
      have hbw := bw_step HG.out (by omega) hk1 hfr
      obtain ⟨h0, h1, _, h3, h4, _, _, h7⟩ := hlk
      obtain ⟨xn, rfl⟩ : ∃ xn : Nat, x0 = (xn : Int) := ⟨x0.toNat, by omega⟩
      obtain ⟨tn, htn⟩ : ∃ tn : Nat, (lkAt g (xn : Int)).to = (tn : Int) := ⟨(lkAt g (xn : Int)).to.toNat, by omega⟩
      rw [htn] at hbw h3 h4 h7
      have HE2 : Hid (hd ++ bw g (nd : Int) = (dn ++ [(xn : Int)]) ++ bw g (tn : Int)) := by show _ = _; rw [HE.out, hbw]; simp
      have HH2 := Lib.hid h7
      have hxnl : xn < g.ls.length := by omega
      have htN : tn < N := by have := HN.out; omega
      have hkt : k < tn := by omega
      have htm := lkAt_mem (g := g) (i := (xn : Int)) ⟨by omega, by omega⟩
      rw [Int.toNat_natCast] at htm
      have hne : (k : Int) ≠ (N : Int) - 1 := by omega
      have hwN : IntKind.i64.wrap ((N : Int) - 1) = (N : Int) - 1 := IntWalk.i64_in _ (by omega)
      have HTM := Lib.hid htm
      have HTN := Lib.hid htn
      have hxn' : (xn : Int) < (g.ls.length : Int) := by omega
      clear hfr hxx hs hbw h7 htm htn h1 hk1
      go_upto_region 4 with (at_builtin; go_loud (refine wpList_app1 rfl _ _ 34 rfl B 3 i0 _ 1 8 Try.underlying34 hi hz0 hz1 hz2 rfl (by decide) u1 _ _ rfl _ [.int .i64 (xn : Int)] rfl HOr.out _ rfl (by simp) rfl (by simp [Value.oneCell']) (by omega) (by decide) (by have := hbr.size; omega) ?_; intro v4 w4 hown4 hb4 ha4))
      have hO4 : w4.ownsRow B 3 1 v4 (dn ++ [(xn : Int)]).length ((dn ++ [(xn : Int)]).map (Value.int .i64)) := by rw [List.length_append, List.map_append]; exact hown4
      have HO4 := Lib.hid hO4
      have hbw4 := hbr.trans hb4
      have hT4 := HT.out w4 hbw4
      have t1 := hT4.t.cell 1
      simp at t1
      have tl := hT4.t.lt
      obtain ⟨b, off, l, hA, hbb, hll, d0, d1, d2, d3⟩ := hT4.ls.lk hxnl
      have e1 : l = lkAt g (xn : Int) := by rw [HTM.out] at hll; exact (Option.some.inj hll).symm
      rw [e1, HTN.out] at d1
      clear hll e1 d0 d2 d3 hO4 hown4
      subst hA
      go_wp2_with fail
      go_roundw
      case rel => exact ⟨dn ++ [(xn : Int)], tn, rfl, HO4, HE2, htN, HH2, by simp; omega, hbw4⟩
      case measure => simp [intOf]; omega
    · have hk : k = N - 1 := by omega
      have HR : Hid (hd ++ bw g (nd : Int) = dn) := by
        show _ = _
        rw [HE.out, show (k : Int) = g.n - 1 by have := HN.out; omega, bw_last]
        simp
      have he : (k : Int) = (N : Int) - 1 := by omega
      have hwN : IntKind.i64.wrap ((N : Int) - 1) = (N : Int) - 1 := IntWalk.i64_in _ (by omega)
      have z1 : ((k : Int) != (N : Int) - 1) = false := by simp [he]
      clear he hk
      go_wp2_with fail
      go_ret
      exact ⟨u1, rfl, by rw [HR.out]; exact HOr.out, hbr⟩
end Go.Proofs.Ytpajajffkbkeaaa
