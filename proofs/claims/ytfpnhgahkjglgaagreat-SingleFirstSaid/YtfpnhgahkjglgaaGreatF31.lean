/-
  OuGo, OuWholeW, SiSnd, joined. No conditions.
-/
import Derived.Test.YtfpnhgahkjglgaaGreatF30
import Derived.Deep.LoopGhost
import Derived.Test.YtfpnhgahkjglgaaGreatF29
import Derived.Test.YtfpnhgahkjglgaaGreatF17
import Derived.Test.YtfpnhgahkjglgaaGreatF26
set_option maxRecDepth 100000
namespace Go.Proofs.YtfpnhgahkjglgaaGreat
open Go Go.RowKit
def GoI (s : Sc) (inp : ByteArray) (L : List (List Pq)) (big : Bool) (i : Nat) : Prop := InvG s inp L ∧ (big = false → (∀ j, j < i → ClosedK s inp L j) ∧ HasK L 0 0 ByteArray.empty 0)
theorem GoI.step {s : Sc} {inp : ByteArray} {L L' : List (List Pq)} {big big' ch : Bool} {i : Nat} (h : GoI s inp L big i) (hr : StepR s inp i L big L' big' ch) : GoI s inp L' big' i := by
 obtain ⟨h1, h2, h3, h4, _⟩ := hr
 refine ⟨h1, fun hb => ?_⟩
 have hb0 : big = false := by
  cases hb2 : big with
  | true => rw [h4 hb2] at hb; cases hb
  | false => rfl
 obtain ⟨h5, h6⟩ := h.2 hb0
 exact ⟨fun j hj => (h5 j hj).mono (h2 j hj) h3, h3 _ _ _ _ h6⟩
theorem GoI.next {s : Sc} {inp : ByteArray} {L : List (List Pq)} {big : Bool} {i : Nat} (h : GoI s inp L big i) (hc : big = false → ClosedK s inp L i) : GoI s inp L big (i + 1) :=
 ⟨h.1, fun hb => ⟨fun j hj => by
  by_cases e : j = i
  ·subst e; exact hc hb
  ·exact (h.2 hb).1 j (by omega), (h.2 hb).2⟩⟩
def IsGoF (s : Sc) (A : Option Addr) (c : Nat) (inp : ByteArray) (w : World) (e : Ending) (w' : World) : Prop :=
 (∃ gp gL cL rows big, e = .returned (.pointer (some ⟨gp, 0, none⟩)) ∧ PlcI w' gp gL cL s A c inp rows big ∧ InvG s inp (rows.map (·.ps)) ∧ (big = false → (∀ j, j ≤ inp.size → ClosedK s inp (rows.map (·.ps)) j) ∧ HasK (rows.map (·.ps)) 0 0 ByteArray.empty 0)) ∧ Below w.heap.size w w'
def GoW (w2 : World) (gp gL cL : Nat) (s : Sc) (A : Option Addr) (c : Nat) (inp : ByteArray) (i : Nat) (wr : World) : Prop :=
 ∃ rows big, PlcI wr gp gL cL s A c inp rows big ∧ GoI s inp (rows.map (·.ps)) big i ∧ Below gp w2 wr
def GoX (w2 : World) (gp gL cL : Nat) (s : Sc) (A : Option Addr) (c : Nat) (inp : ByteArray) (i gk : Nat) (cv : Value) (wr : World) : Prop :=
 ∃ rows big ch, cv = .bool ch ∧ PlcI wr gp gL cL s A c inp rows big ∧ GoI s inp (rows.map (·.ps)) big i ∧ Below gp w2 wr ∧ (ch = true → mu (rows.map (·.ps)) i < gk) ∧ (ch = false → big = false → ClosedK s inp (rows.map (·.ps)) i)
structure MkI (w : World) (gp : Nat) (rows : List PRow) (v : Value) : Prop where
 hL : w.ownsRow (gp + 1) 148 1 v rows.length (rows.map PRow.val)
 own : ∀ (i : Nat) (r : PRow), rows[i]? = some r → r.ps = [] ∧ w.ownsRow (gp + 1) 151 3 r.val 0 []
 apart : ∀ (i j : Nat) (a b : PRow), i ≠ j → rows[i]? = some a → rows[j]? = some b → ∀ g, a.val.ownBlock = some g → b.val.ownBlock ≠ some g
theorem MkI.nil (w : World) (gp : Nat) : MkI w gp [] (.slice none 0 0) := ⟨own_nil _ _ _ _, fun i r h => by simp at h, fun i j a b _ h => by simp at h⟩
theorem MkI.snoc {w w4 : World} {gp : Nat} {rows : List PRow} {v : Value} {A' : Option Addr} {c' : Nat} (h : MkI w gp rows v) (hg : gp < w.heap.size) (hown : w4.ownsRow (gp + 1) 148 1 (.slice A' (rows.length + 1) c') (rows.length + 1) (rows.map PRow.val ++ [.slice (some ⟨w.heap.size, 0, none⟩) 0 0]))
 (ha : Apps (((w.alloc (.cells #[] 151)).alloc (.cells #[.slice (some ⟨w.heap.size, 0, none⟩) 0 0] 148))) w4 v (.slice A' (rows.length + 1) c')) :
 MkI (w4.setCell ⟨gp, 4, none⟩ (.slice A' (rows.length + 1) c')) gp (rows ++ [⟨some ⟨w.heap.size, 0, none⟩, 0, []⟩]) (.slice A' (rows.length + 1) c') := by
 have hv : ∀ g, v.ownBlock = some g → g < w.heap.size := fun g hg => (h.hL.lt g hg).2
 have hset : ∀ {v : Value} {e : TypeId} {sz n : Nat} {xs : List Value}, w4.ownsRow (gp + 1) e sz v n xs → (w4.setCell ⟨gp, 4, none⟩ (.slice A' (rows.length + 1) c')).ownsRow (gp + 1) e sz v n xs := fun hx =>
  own_set hx (a := ⟨gp, 4, none⟩) (fun e => absurd (own_block_le hx _ e) (Nat.not_succ_le_self _)) _
 have hbA : Below w.heap.size w ((w.alloc (.cells #[] 151)).alloc (.cells #[.slice (some ⟨w.heap.size, 0, none⟩) 0 0] 148)) := nw _ (nw _ (Below.refl _ _))
 have hnew : w4.ownsRow (gp + 1) 151 3 (.slice (some ⟨w.heap.size, 0, none⟩) 0 0) 0 [] := by
  have h0 := (own_empty w 151 3 (gp + 1) hg).alloc (.cells #[.slice (some ⟨w.heap.size, 0, none⟩) 0 0] 148)
  exact own_keep h0 fun g hgg hlt => ha.keep g hlt fun e => by
   have e1 := hv g e
   have e2 : w.heap.size = g := by simpa [Value.ownBlock] using hgg
   omega
 refine ⟨by have := hset hown; rw [List.length_append, List.map_append]; exact this, fun i r hr => ?_, fun i j a b hne hi hj g hgg => ?_⟩
 ·by_cases e : i < rows.length
  ·rw [List.getElem?_append_left e] at hr
   refine ⟨(h.own i r hr).1, hset ?_⟩
   have h0 := own_below (h.own i r hr).2 hbA
   exact own_keep h0 fun g hgg hlt => ha.keep g hlt fun e' => own_ne h.hL (h.own i r hr).2 (by decide) g e' hgg
  ·rw [List.getElem?_append_right (by omega)] at hr
   have : i - rows.length = 0 := by
    have := (List.getElem?_eq_some_iff.1 hr).1
    simp at this
    omega
   rw [this] at hr
   obtain rfl := Option.some.inj hr
   exact ⟨rfl, hset hnew⟩
 ·have hb1 : ∀ (i : Nat) (r : PRow), rows[i]? = some r → ∀ g, r.val.ownBlock = some g → g < w.heap.size := fun i r hr g hgg => ((h.own i r hr).2.lt g hgg).2
  by_cases e : i < rows.length
  ·rw [List.getElem?_append_left e] at hi
   by_cases e2 : j < rows.length
   ·rw [List.getElem?_append_left e2] at hj
    exact h.apart i j a b hne hi hj g hgg
   ·rw [List.getElem?_append_right (by omega)] at hj
    have hj0 : j - rows.length = 0 := by have := (List.getElem?_eq_some_iff.1 hj).1; simp at this; omega
    rw [hj0] at hj
    obtain rfl := Option.some.inj hj
    intro e3
    have := hb1 i a hi g hgg
    have e4 : w.heap.size = g := by simpa [PRow.val, Value.ownBlock] using e3
    omega
  ·rw [List.getElem?_append_right (by omega)] at hi
   have hi0 : i - rows.length = 0 := by have := (List.getElem?_eq_some_iff.1 hi).1; simp at this; omega
   rw [hi0] at hi
   obtain rfl := Option.some.inj hi
   have e4 : w.heap.size = g := by simpa [PRow.val, Value.ownBlock] using hgg
   by_cases e2 : j < rows.length
   ·rw [List.getElem?_append_left e2] at hj
    intro e3
    have := hb1 j b hj g e3
    omega
   ·exfalso
    have : j = i := by
     have := (List.getElem?_eq_some_iff.1 hj).1
     simp at this
     omega
    exact hne this.symm
theorem tps_info : (Tryz.prog.info? 148).map (fun i => (i.zero, i.size, i.bytes)) = some (some (.slice none 0 0), 1, 24) := by kernel_rfl
theorem mk_plc {w : World} {gp : Nat} {rows : List PRow} {v : Value} {s : Sc} {A : Option Addr} {c : Nat} {inp : ByteArray} (h : MkI w gp rows v) (hn : 0 < rows.length) (hp : Blk w gp 82 #[.int .i64 s.n, .int .u8 s.acc, .slice A s.rs.length c, .string inp, v, .bool false]) : ∃ gL cL, v = .slice (some ⟨gL, 0, none⟩) rows.length cL ∧ PlcI w gp gL cL s A c inp rows false ∧ ∀ (i : Nat) (r : PRow), rows[i]? = some r → r.ps = [] := by
 have hL := h.hL
 rcases hL.2 with ⟨_, h0⟩ | ⟨g, cap, cur, hv, _⟩
 ·omega
 ·subst hv
  refine ⟨g, cap, rfl, ⟨hp, hL, fun i r hr => ?_, h.apart⟩, fun i r hr => (h.own i r hr).1⟩
  have := h.own i r hr
  rw [this.1]
  exact this.2
set_option maxHeartbeats 16000000 in
theorem rgo_full (s : Sc) (A : Option Addr) (c : Nat) (inp : ByteArray) (w : World) (hs : ScIn w s A c) (hok : ScOK s) (hF : FlatS s inp) (hin : inp.size ≤ 40) :
 Calls Tryz.prog 32 #[.agg #[.int .i64 s.n, .int .u8 s.acc, .slice A s.rs.length c], .string inp] w (IsGoF s A c inp w) := by
 obtain ⟨i0, hinf, hz0, hz1, hz2⟩ := info_partsR tps_info
 obtain ⟨w1, hw1⟩ : ∃ w1, w.alloc (.cells #[.int .i64 s.n, .int .u8 s.acc, .slice A s.rs.length c] 30) = w1 := ⟨_, rfl⟩
 have hb1 : Below w.heap.size w w1 := by rw [← hw1]; exact nw _ (Below.refl _ _)
 have hB : Blk w1 w.heap.size 30 #[.int .i64 s.n, .int .u8 s.acc, .slice A s.rs.length c] := by rw [← hw1]; exact Blk.new _ _ _
 have HW1 := Lib.hid hw1
 have HB1 := Lib.hid hb1
 have HCE : Hid (∀ W, Below w1.heap.size w1 W → W.cell? ⟨w.heap.size, 0, none⟩ = some (.int .i64 s.n) ∧ W.cell? ⟨w.heap.size, 1, none⟩ = some (.int .u8 s.acc) ∧ W.cell? ⟨w.heap.size, 2, none⟩ = some (.slice A s.rs.length c) ∧ w.heap.size < W.heap.size) := fun W hW => by
  have e1 := hB.below hW hB.lt
  exact ⟨by rw [e1.cell]; rfl, by rw [e1.cell]; rfl, by rw [e1.cell]; rfl, e1.lt⟩
 obtain ⟨b0, b1, b2, bl⟩ := HCE.out _ (Below.refl _ _)
 clear hw1 hb1 hB
 have HS := Lib.hid hs
 have HOK := Lib.hid hok
 have HF := Lib.hid hF
 clear hs hok hF
 go_enter Tryz.func32, Tryz.ntmps32
 go_upto_region 1 with fail
 rw [HW1.out]
 go_upto_region 2 with fail
 obtain ⟨gp, hgpe⟩ : ∃ x, w.heap.size + 1 = x := ⟨_, rfl⟩
 have hgp : w1.heap.size = gp := by rw [← hgpe, ← HW1.out]; simp
 obtain ⟨w2, hw2⟩ : ∃ W, w1.alloc (.cells #[.int .i64 s.n, .int .u8 s.acc, .slice A s.rs.length c, .string inp, .slice none 0 0, .bool false] 82) = W := ⟨_, rfl⟩
 have hP2 : Blk w2 gp 82 #[.int .i64 s.n, .int .u8 s.acc, .slice A s.rs.length c, .string inp, .slice none 0 0, .bool false] := by rw [← hw2]; exact Blk.new_ hgp.symm
 have hb2 : Below w1.heap.size w1 w2 := by rw [← hw2]; exact nw _ (Below.refl _ _)
 rw [hw2]
 try rw [hgp]
 try rw [hgpe]
 have HB2 : Hid (∀ W, Below gp w2 W → Below w1.heap.size w1 W) := fun W h => hb2.trans (h.mono (Nat.le_of_eq hgp))
 have HP2 := Lib.hid hP2
 have HGP : Hid (w1.heap.size = gp) := hgp
 clear hw2 hgp hgpe hP2 hb2 b0 b1 b2 bl
 go_wp2_with fail
 go_loopw [6] (fun iv wr => ∃ (k : Nat) (v : Value) (rows : List PRow), k ≤ inp.size + 1 ∧ rows.length = k ∧ iv = .int .i64 (k : Int) ∧ Hid (MkI wr gp rows v) ∧ Blk wr gp 82 #[.int .i64 s.n, .int .u8 s.acc, .slice A s.rs.length c, .string inp, v, .bool false] ∧ Below gp w2 wr) (fun iv _ => inp.size + 1 - (intOf iv).toNat)
 case atStart => exact ⟨0, .slice none 0 0, [], Nat.zero_le _, rfl, rfl, MkI.nil _ _, HP2.out, Below.refl _ _⟩
 case round =>
  obtain ⟨wR, rfl⟩ : ∃ W, W = wr := ⟨wr, rfl⟩
  obtain ⟨k, v, rows, hk, hrk, rfl, HM, hP, hbr⟩ := hrel
  have HBR := Lib.hid hbr
  have HP := Lib.hid hP
  have hp4 := hP.cell 4
  have hp5 := hP.cell 5
  have hpl := hP.lt
  simp at hp4 hp5
  clear hbr hP
  by_cases hlt : k < inp.size + 1
  ·have hki : (k : Int) ≤ (inp.size : Int) := by omega
   have HRK := Lib.hid hrk
   clear hrk
   have hvne : v.ownBlock ≠ some gp := fun e => absurd (own_block_le HM.out.hL _ e) (Nat.not_succ_le_self _)
   go_wp2_with (at_builtin; go_loud (refine wpList_appS5 (enc := fun x => [x]) (R := fun _ x vs => vs = [x]) rfl _ _ 80 rfl (gp + 1) 148 i0 _ 1 24 Tryz.underlying80 hinf hz0 hz1 hz2 rfl (by decide) v _ _ rfl ((HM.out.hL.alloc _).alloc _) (some ⟨wR.heap.size + 1, 0, none⟩) 1 [Value.slice (some ⟨wR.heap.size, 0, none⟩) 0 0] rfl (slr_blkR (enc := fun x => [x]) (Blk.new_ (by simp)) (fun _ => rfl) (fun _ => rfl)) (fun _ _ _ h => h) (fun _ => rfl) (fun u hu => by simp at hu; subst hu; rfl) (by simp; rw [HRK.out]; omega) (by decide) (by simp; omega) ?_; intro v4 w4 hown4 hb4 ha4; obtain ⟨A4, c4, rfl⟩ := own_form hown4; have HOW4 := Lib.hid hown4; have HA4 := Lib.hid ha4; have hP4 := ((HP.out.alloc (.cells #[] 151)).alloc (.cells #[.slice (some ⟨wR.heap.size, 0, none⟩) 0 0] 148)).apps ha4 hvne; have HP4 := Lib.hid hP4; have HB4 := Lib.hid hb4; have h44 := hP4.cell 4; have hf44 := hP4.frozen 4; have hl44 := hP4.lt; simp at h44; clear hown4 ha4 hP4 hb4))
   go_roundw
   case rel =>
    have h1 := HM.out.snoc hpl (A' := A4) (c' := c4) (by simpa using HOW4.out) (by simpa using HA4.out)
    have h2 := HP4.out.set_ 4 (.slice A4 (rows.length + 1) c4)
    have h3 := ((((HBR.out.alloc (by omega) (.cells #[] 151)).alloc (by simp; omega) (.cells #[.slice (some ⟨wR.heap.size, 0, none⟩) 0 0] 148)).trans (HB4.out.mono (by omega)))).setCell (p := ⟨gp, 4, none⟩) (Nat.le_refl _) (.slice A4 (rows.length + 1) c4)
    exact ⟨k + 1, .slice A4 (rows.length + 1) c4, rows ++ [(⟨some ⟨wR.heap.size, 0, none⟩, 0, []⟩ : PRow)], by omega, by rw [List.length_append, HRK.out]; rfl, by go_num, h1, by simpa using h2, h3⟩
   case measure => simp [intOf]; omega
  ·obtain rfl : k = inp.size + 1 := by omega
   have hki : ¬ ((inp.size + 1 : Nat) : Int) ≤ (inp.size : Int) := by omega
   have hki2 : ¬ ((inp.size : Int) + 1) ≤ (inp.size : Int) := by omega
   obtain ⟨gL, cL, rfl, hPI, hnil⟩ := mk_plc HM.out (by omega) HP.out
   obtain ⟨r0, hr0⟩ : ∃ r, rows[0]? = some r := ⟨_, List.getElem?_eq_getElem (by omega)⟩
   have hI0 : InvG s inp (rows.map (·.ps)) := ⟨by rw [List.length_map, hrk], fun i ps hi => by
    rw [List.getElem?_map] at hi
    obtain ⟨r, hr, rfl⟩ := Option.map_eq_some_iff.1 hi
    rw [hnil i r hr]; simp, fun i ps hi q hq => by
    rw [List.getElem?_map] at hi
    obtain ⟨r, hr, rfl⟩ := Option.map_eq_some_iff.1 hi
    rw [hnil i r hr] at hq; cases hq⟩
   have HAD := Lib.hid (radd_any wR gp gL cL s A c inp rows false 0 r0 ⟨0, ⟨#[]⟩, 0⟩ hPI hr0 (by rw [hnil 0 r0 hr0]; simp) (by omega))
   have HR0 := Lib.hid hr0
   have HI0 := Lib.hid hI0
   clear hPI hr0 hI0 hnil hrk hp4 hp5 HM HP hpl
   go_upto_region 7 with (go_at_call 71; go_loud (refine HAD.out.mono ?_; rintro e X1 hadd; obtain ⟨rows1, big1, fresh, rfl, hP1, hAR, hb1⟩ := hadd))
   have hAL := addR_L hAR HR0.out
   have hGW : GoW w2 gp gL cL s A c inp 0 X1 := ⟨rows1, big1, hP1, ⟨hAL.inv HI0.out Rch.start, fun hb => ⟨fun j hj => absurd hj (by omega), (hAL.put).resolve_right (fun h => by rw [hb] at h; cases h)⟩⟩, HBR.out.trans hb1⟩
   have HGW := Lib.hid hGW
   clear hP1 hAR hb1 hAL hGW HI0 HR0 HAD HBR
   go_wp2_with fail
   go_loopw [7] (fun iv wr => ∃ i : Nat, i ≤ inp.size + 1 ∧ iv = .int .i64 (i : Int) ∧ GoW w2 gp gL cL s A c inp i wr) (fun iv _ => inp.size + 1 - (intOf iv).toNat)
   case atStart => exact ⟨0, by omega, rfl, HGW.out⟩
   case round =>
    obtain ⟨wP, rfl⟩ : ∃ W, W = wr := ⟨wr, rfl⟩
    obtain ⟨i, hi, rfl, rows2, big2, hP2, hGI, hb2⟩ := hrel
    have HP2' := Lib.hid hP2
    have HGI := Lib.hid hGI
    have HB2' := Lib.hid hb2
    have hp5 := hP2.hp.cell 5
    have hpl := hP2.hp.lt
    simp at hp5
    clear hP2 hGI hb2
    by_cases hlt : i < inp.size + 1
    ·have hii : (i : Int) ≤ (inp.size : Int) := by omega
     cases hbv : big2 with
     | true =>
      rw [hbv] at hp5
      go_wp2_with fail
      go_ret
      exact ⟨⟨gp, gL, cL, rows2, true, rfl, by rw [← hbv]; exact HP2'.out, HGI.out.1, fun h => by cases h⟩, bthen HB1.out (HB2.out _ HB2'.out)⟩
     | false =>
      rw [hbv] at hp5
      have HX0 : Hid (GoX w2 gp gL cL s A c inp i (mu (rows2.map (·.ps)) i + 1) (.bool true) wP) := ⟨rows2, false, true, rfl, by rw [← hbv]; exact HP2'.out, by rw [← hbv]; exact HGI.out, HB2'.out, fun _ => Nat.lt_succ_self _, fun h => by cases h⟩
      go_wp2_with fail
      go_loopg [8] (mu (rows2.map (·.ps)) i + 1) (fun gk cv wr => GoX w2 gp gL cL s A c inp i gk cv wr)
      case atStart => exact HX0.out
      case round =>
       obtain ⟨wQ, rfl⟩ : ∃ W, W = wr := ⟨wr, rfl⟩
       obtain ⟨rows3, big3, ch3, rfl, hP3, hG3, hb3, hlt3, hcl3⟩ := hrel
       have HP3 := Lib.hid hP3
       have HG3 := Lib.hid hG3
       have HB3 := Lib.hid hb3
       have HL3 := Lib.hid hlt3
       have HC3 := Lib.hid hcl3
       have hp5 := hP3.hp.cell 5
       have hpl := hP3.hp.lt
       simp at hp5
       clear hP3 hG3 hb3 hlt3 hcl3
       cases hch : ch3 with
       | false =>
        go_wp2_with fail
        go_roundw
        case rel => exact ⟨i + 1, by omega, by go_num, rows3, big3, HP3.out, HG3.out.next (HC3.out hch), HB3.out⟩
        case measure => simp [intOf]; omega
       | true =>
        cases hbg : big3 with
        | true =>
         rw [hbg] at hp5
         go_wp2_with fail
         go_roundw
         case rel => exact ⟨i + 1, by omega, by go_num, rows3, big3, HP3.out, HG3.out.next (fun h => by rw [hbg] at h; cases h), HB3.out⟩
         case measure => simp [intOf]; omega
        | false =>
         rw [hbg] at hp5
         have HLT : Hid (mu (rows3.map (·.ps)) i < gk) := HL3.out hch
         have HSTP := Lib.hid (rstep_any w1 wQ gp gL cL s A c inp rows3 big3 i (HS.out.below HB1.out) (Nat.le_of_eq HGP.out) (HB2.out _ HB3.out) HP3.out HG3.out.1 (by omega) HOK.out HF.out hin)
         go_wp2_with (go_at_call 72; go_loud (refine HSTP.out.mono ?_; rintro e X4 hst; obtain ⟨rows4, big4, ch4, rfl, hP4, hSR, hb4⟩ := hst; have HP4 := Lib.hid hP4; have HG4 := Lib.hid (HG3.out.step hSR); have HB4 := Lib.hid (HB3.out.trans hb4); have hlast := hSR.2.2.2.2; clear hP4 hSR hb4; rcases hlast with ⟨rfl, hmu⟩ | ⟨rfl, hcl⟩ <;> first | (have HMU := Lib.hid hmu; clear hmu) | (have HCL := Lib.hid hcl; clear hcl)))
         ·go_roundg (mu (rows4.map (·.ps)) i + 1)
          case measure => have h1 := HMU.out; have h2 := HLT.out; omega
          case rel => exact ⟨rows4, big4, true, rfl, HP4.out, HG4.out, HB4.out, fun _ => Nat.lt_succ_self _, fun h => by cases h⟩
         ·go_roundg 0
          case measure => have h2 := HLT.out; omega
          case rel => exact ⟨rows4, big4, false, rfl, HP4.out, HG4.out, HB4.out, fun h => (by cases h), fun _ => HCL.out⟩
    ·obtain rfl : i = inp.size + 1 := by omega
     have hii : ¬ ((inp.size + 1 : Nat) : Int) ≤ (inp.size : Int) := by omega
     have hii2 : ¬ ((inp.size : Int) + 1) ≤ (inp.size : Int) := by omega
     go_wp2_with fail
     go_ret
     exact ⟨⟨gp, gL, cL, rows2, big2, rfl, HP2'.out, HGI.out.1, fun h => ⟨fun j hj => (HGI.out.2 h).1 j (by omega), (HGI.out.2 h).2⟩⟩, bthen HB1.out (HB2.out _ HB2'.out)⟩
def IsWho (l : List Rs) (w : World) (e : Ending) (w' : World) : Prop :=
 (∃ A' c', e = .returned (.slice A' l.length c') ∧ (l.length ≤ c' ∧ c' ≤ maxLen) ∧ SlR 2 RRs w' A' l) ∧ Below w.heap.size w w'
set_option maxHeartbeats 16000000 in
theorem rwhole_any (gp gL cL : Nat) (s : Sc) (A : Option Addr) (c : Nat) (inp : ByteArray) (rows : List PRow) (big : Bool) (r : PRow) (w : World) (hs : ScIn w s A c) (hI : PlcI w gp gL cL s A c inp rows big) (hlen : rows.length = inp.size + 1) (hr : rows[inp.size]? = some r) (h150 : r.ps.length ≤ 150) (hm : ∀ p ∈ r.ps, 0 ≤ p.m ∧ p.m < 8) (hin : inp.size ≤ 40) :
 Calls Tryz.prog 33 #[.pointer (some ⟨gp, 0, none⟩)] w (IsWho (wholeTo s r.ps r.ps.length) w) := by
 have HS := Lib.hid hs
 have HI := Lib.hid hI
 have HR := Lib.hid hr
 have HM := Lib.hid hm
 have hii : (inp.size : Int) < (rows.length : Int) := by omega
 have hi0 : (0 : Int) ≤ (inp.size : Int) := by omega
 obtain ⟨w2, hw2⟩ : ∃ W, w.alloc (.cells #[] 48) = W := ⟨_, rfl⟩
 have HB2 : Hid (Below w.heap.size w w2) := by show Below _ _ _; rw [← hw2]; exact nw _ (Below.refl _ _)
 clear hlen hs hI hr hm
 go_enter Tryz.func33, Tryz.ntmps33
 go_upto_region 2 with fail
 clear hw2
 have h9 := HI.out.below HB2.out
 have h0 := h9.hp.cell 0
 have h1 := h9.hp.cell 1
 have h2 := h9.hp.cell 2
 have h3 := h9.hp.cell 3
 have h4 := h9.hp.cell 4
 have hl := h9.hp.lt
 have hrow : w2.cell? ⟨gL, inp.size, none⟩ = some (.slice r.A r.ps.length r.c) := (h9.row HR.out).1
 have hgl := h9.gl.2
 simp at h0 h1 h2 h3 h4
 clear h9
 refine ordB_below (.quiet 0 (.quiet 1 (.quiet 2 (.quiet 3 (.quiet 4 (.quiet 5 (.quiet 6 (.quiet 7 (.quiet 8 (.quiet 9 (.quiet 10 (.quiet 11 .done)))))))))))) (by kernel_rfl) (by kernel_rfl) (by kernel_rfl) (fun _ _ _ _ _ h => h) ?_
 intro V0 hV0
 iterate 12 ((first | refine ordB_skip rfl rfl ?_ | (refine ordB_take (v := ?_) rfl rfl ?_ ?_; rotate_left 1; (focus (intro W hW; obtain ⟨hcW, hfW⟩ := bcell hW; (go_simp <;> with_reducible rfl))))); simp only [Act.put, zA, zB, zC])
 refine ordB_nil ?_
 have HB3 := Lib.hid (HB2.out.trans (hV0.mono HB2.out.size))
 obtain ⟨w3, hw3⟩ : ∃ W, V0 = W := ⟨_, rfl⟩
 rw [hw3] at HB3 ⊢
 clear hw3 hV0 h0 h1 h2 h3 h4 hl hrow
 obtain ⟨B3, hB3⟩ : ∃ b, w3.heap.size = b := ⟨_, rfl⟩
 clear hB3
 go_wp2_with fail
 go_loopw [3, 5] (fun ov jv wr => ∃ j : Nat, j ≤ r.ps.length ∧ jv = .int .i64 (j : Int) ∧ ∃ (A1 : Option Addr) (c1 : Nat), ov = .slice A1 (wholeTo s r.ps j).length c1 ∧ ((wholeTo s r.ps j).length ≤ c1 ∧ c1 ≤ maxLen) ∧ SlR 2 RRs wr A1 (wholeTo s r.ps j) ∧ Below w.heap.size w wr) (fun _ jv _ => r.ps.length - (intOf jv).toNat)
 case atStart => exact ⟨0, Nat.zero_le _, rfl, _, _, rfl, ⟨Nat.le_refl _, Nat.zero_le _⟩, SlR.nil, HB3.out⟩
 case round =>
  obtain ⟨wR, rfl⟩ : ∃ W, W = wr := ⟨wr, rfl⟩
  obtain ⟨j, hj, rfl, A1, c1, rfl, hc1, hsr, hbr⟩ := hrel
  have HBR := Lib.hid hbr
  have HSR := Lib.hid hsr
  have HC1 := Lib.hid hc1
  clear hsr hc1
  by_cases hlt : j < r.ps.length
  ·have hji : (j : Int) < (r.ps.length : Int) := by omega
   have hj0 : (0 : Int) ≤ (j : Int) := by omega
   obtain ⟨gr, hA, hgr, hgr2, _, _⟩ := HI.out.form HR.out (by omega)
   obtain ⟨p, hpk⟩ : ∃ p, r.ps[j]? = some p := ⟨_, List.getElem?_eq_getElem hlt⟩
   have HPK := Lib.hid hpk
   have HCE : Hid (∀ W, Below w.heap.size w W → (W.cell? ⟨gp, 0, none⟩ = some (.int .i64 s.n) ∧ W.cell? ⟨gp, 1, none⟩ = some (.int .u8 s.acc) ∧ W.cell? ⟨gp, 2, none⟩ = some (.slice A s.rs.length c) ∧ W.cell? ⟨gp, 3, none⟩ = some (.string inp) ∧ W.cell? ⟨gp, 4, none⟩ = some (.slice (some ⟨gL, 0, none⟩) rows.length cL) ∧ gp < W.heap.size) ∧ W.cell? ⟨gr, j * 3, none⟩ = some (.int .i64 p.m) ∧ W.cell? ⟨gr, j * 3 + 1, none⟩ = some (.string p.o) ∧ W.cell? ⟨gr, j * 3 + 2, none⟩ = some (.int .i64 p.c) ∧ gr < W.heap.size) := fun W hW => by
    have h9 := HI.out.below hW
    obtain ⟨q0, q1, q2⟩ := SlR.pq (h9.slr HR.out).1 hA hpk
    have e1 := h9.hp
    exact ⟨⟨by rw [e1.cell]; rfl, by rw [e1.cell]; rfl, by rw [e1.cell]; rfl, by rw [e1.cell]; rfl, by rw [e1.cell]; rfl, e1.lt⟩, q0, q1, q2, Nat.lt_of_lt_of_le hgr2 hW.size⟩
   have HAC : Hid (∀ W, Below w.heap.size w W → Calls Tryz.prog 48 #[.agg #[.int .i64 s.n, .int .u8 s.acc, .slice A s.rs.length c], .int .i64 p.m] W fun e w' => e = .returned (.bool (accB s.acc p.m)) ∧ Below W.heap.size W w') := fun W hW => raccepts5_any s A c p.m W (HS.out.below hW) (HM.out p (List.mem_of_getElem? hpk))
   obtain ⟨⟨h0, h1, h2, h3, h4, hl⟩, q0, q1, q2, ql⟩ := HCE.out _ hbr
   rw [hA]
   clear hbr hpk
   go_upto_region 6 with fail
   refine ordB_below (.quiet 0 (.quiet 1 (.quiet 2 (.quiet 3 (.quiet 4 (.quiet 5 (.quiet 6 (.quiet 7 (.quiet 8 (.only 9 .done)))))))))) (by kernel_rfl) (by kernel_rfl) (by kernel_rfl) (fun _ _ _ _ _ h => h) ?_
   intro V1 hV1
   iterate 9 ((first | refine ordB_skip rfl rfl ?_ | (refine ordB_take (v := ?_) rfl rfl ?_ ?_; rotate_left 1; (focus (intro W hW; obtain ⟨hcW, hfW⟩ := bcell hW; (go_simp <;> with_reducible rfl))))); simp only [Act.put, zA, zB, zC])
   refine ordB_only (opB_call rfl rfl (fun K hK => ?_))
   go_simp
   go_at_call 48
   refine (HAC.out V1 (HBR.out.trans (hV1.mono HBR.out.size))).mono ?_
   rintro e V1_1 ⟨rfl, hx1⟩
   refine hK.out _ _ (hV1.trans (hx1.mono hV1.size)) (fun hV1_1 => ?_)
   refine ordB_nil ?_
   have HB6 := Lib.hid (HBR.out.trans (hV1_1.mono HBR.out.size))
   have HS6 := Lib.hid (HSR.out.below keeps_rs hV1_1)
   obtain ⟨X6, hX6⟩ : ∃ W, V1_1 = W := ⟨_, rfl⟩
   rw [hX6] at HB6 HS6 ⊢
   clear hX6 hV1_1 h0 h1 h2 h3 h4 hl q0 q1 q2
   cases ha : accB s.acc p.m with
   | true =>
    have HNX : Hid (wholeTo s r.ps (j + 1) = insR (wholeTo s r.ps j) ⟨p.o, p.c⟩) := by show _ = _; rw [wholeTo_next HPK.out, if_pos ha]
    have HIN : Hid (∀ W, Below X6.heap.size X6 W → Calls Tryz.prog 73 #[.slice A1 (wholeTo s r.ps j).length c1, .agg #[.string p.o, .int .i64 p.c]] W (IsIns ⟨p.o, p.c⟩ (wholeTo s r.ps j) W)) := fun W hW => rins_any A1 (wholeTo s r.ps j) c1 ⟨p.o, p.c⟩ W (HS6.out.below keeps_rs hW) HC1.out (by have := wholeTo_len s r.ps j; omega) (whole_is s r.ps j (by omega)).sorted
    obtain ⟨⟨h0, h1, h2, h3, h4, hl⟩, q0, q1, q2, ql⟩ := HCE.out _ HB6.out
    clear ha
    go_upto_region 7 with fail
    refine ordB_below (.quiet 0 (.quiet 1 (.quiet 2 (.quiet 3 (.quiet 4 (.quiet 5 (.quiet 6 (.quiet 7 (.quiet 8 (.quiet 9 (.quiet 10 (.quiet 11 (.only 12 (.quiet 13 .done)))))))))))))) (by kernel_rfl) (by kernel_rfl) (by kernel_rfl) (fun _ _ _ _ _ h => h) ?_
    intro V2 hV2
    iterate 12 ((first | refine ordB_skip rfl rfl ?_ | (refine ordB_take (v := ?_) rfl rfl ?_ ?_; rotate_left 1; (focus (intro W hW; obtain ⟨hcW, hfW⟩ := bcell hW; (go_simp <;> with_reducible rfl))))); simp only [Act.put, zA, zB, zC])
    refine ordB_only (opB_call rfl rfl (fun K hK => ?_))
    go_simp
    go_at_call 73
    refine (HIN.out V2 hV2).mono ?_
    rintro e V2_1 ⟨⟨A7, c7, rfl, hc7, hs7⟩, hx7⟩
    refine hK.out _ _ (hV2.trans (hx7.mono hV2.size)) (fun hV2_1 => ?_)
    iterate 1 ((first | refine ordB_skip rfl rfl ?_ | (refine ordB_take (v := ?_) rfl rfl ?_ ?_; rotate_left 1; (focus (intro W hW; obtain ⟨hcW, hfW⟩ := bcell hW; (go_simp <;> with_reducible rfl))))); simp only [Act.put, zA, zB, zC])
    refine ordB_nil ?_
    have HB7 := Lib.hid (HB6.out.trans (hV2_1.mono HB6.out.size))
    go_wp2_with fail
    go_roundw
    case rel => exact ⟨j + 1, by omega, by go_num, A7, c7, by rw [HNX.out], by rw [HNX.out]; exact hc7, by rw [HNX.out]; exact hs7, HB7.out⟩
    case measure => simp [intOf]; omega
   | false =>
    have HNX : Hid (wholeTo s r.ps (j + 1) = wholeTo s r.ps j) := by show _ = _; rw [wholeTo_next HPK.out, ha]; rfl
    clear ha
    go_wp2_with fail
    go_roundw
    case rel => exact ⟨j + 1, by omega, by go_num, A1, c1, by rw [HNX.out], by rw [HNX.out]; exact HC1.out, by rw [HNX.out]; exact HS6.out, HB6.out⟩
    case measure => simp [intOf]; omega
  ·obtain rfl : j = r.ps.length := by omega
   have hji : ¬ ((r.ps.length : Nat) : Int) < (r.ps.length : Int) := by omega
   clear hbr
   go_wp2_with fail
   go_ret
   exact ⟨⟨A1, c1, rfl, HC1.out, HSR.out⟩, HBR.out⟩
theorem IsSnd.yes {s : Sc} {e : Ending} (h : IsSnd s e) (hE : soundE s = 0) : e = .returned (.bool true) := by
 rcases h.parts with ⟨h1, _⟩ | ⟨_, h2⟩
 ·exact h1
 ·exact absurd hE h2
theorem IsSnd.no {s : Sc} {e : Ending} (h : IsSnd s e) (hE : ¬ soundE s = 0) : e = .returned (.bool false) := by
 rcases h.parts with ⟨_, h2⟩ | ⟨h1, _⟩
 ·exact absurd h2 hE
 ·exact h1
end Go.Proofs.YtfpnhgahkjglgaaGreat
