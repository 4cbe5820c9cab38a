/-
  The walk of layer 05's reference: the rules at a place followed once.
-/
import Derived.Test.YtfpnhgahkjglgaaGreatF28
import Derived.Test.YtfpnhgahkjglgaaGreatF06
set_option maxRecDepth 100000
namespace Go.Proofs.YtfpnhgahkjglgaaGreat
open Go Go.RowKit
theorem AddL.grow {L L' : List (List Pq)} {i j : Nat} {x : Pq} {big big' fresh : Bool} {ps ps' : List Pq} (h : AddL L i x L' big big' fresh) (h1 : L[j]? = some ps) (h2 : L'[j]? = some ps') : ps.length ≤ ps'.length := by
 by_cases e : j = i
 ·subst e
  obtain ⟨qs, h3, h⟩ := h
  obtain rfl := Option.some.inj (h1.symm.trans h3)
  have hl := (List.getElem?_eq_some_iff.1 h1).1
  rcases h with ⟨k, p, _, _, _, _, _, rfl⟩ | ⟨_, rfl, _⟩ | ⟨_, _, _, rfl⟩
  ·rw [List.getElem?_set_self hl] at h2
   obtain rfl := Option.some.inj h2
   rw [List.length_set]; exact Nat.le_refl _
  ·obtain rfl := Option.some.inj (h1.symm.trans h2); exact Nat.le_refl _
  ·rw [List.getElem?_set_self hl] at h2
   obtain rfl := Option.some.inj h2
   rw [List.length_append]; omega
 ·rw [h.other e] at h2
  obtain rfl := Option.some.inj (h1.symm.trans h2)
  exact Nat.le_refl _
theorem ext_pre {s p : ByteArray} {i : Nat} (_h : i + p.size ≤ s.size) : s.extract i (i + p.size) = p ↔ bl p <+: (bl s).drop i := by
 have e : bl (s.extract i (i + p.size)) = ((bl s).drop i).take p.size := by
  simp [bl, ByteArray.data_extract]
 constructor
 ·intro h2
  rw [h2] at e
  rw [e]
  exact List.take_prefix _ _
 ·intro h2
  refine bl_inj ?_
  rw [e]
  have := (List.prefix_iff_eq_take.1 h2).symm
  rwa [bl_len] at this
def IsStepG (w : World) (gp gL cL : Nat) (s : Sc) (A : Option Addr) (c : Nat) (inp : ByteArray) (rows : List PRow) (big : Bool) (i : Nat) (e : Ending) (w' : World) : Prop :=
 ∃ rows' big' ch, e = .returned (.bool ch) ∧ PlcI w' gp gL cL s A c inp rows' big' ∧ StepR s inp i (rows.map (·.ps)) big (rows'.map (·.ps)) big' ch ∧ Below gp w w'
def StO (w : World) (gp gL cL : Nat) (s : Sc) (A : Option Addr) (c : Nat) (inp : ByteArray) (i : Nat) (L0 : List (List Pq)) (big : Bool) (k n : Nat) (kk : Prop) (cv : Value) (wr : World) : Prop :=
 ∃ rows' big' ch, cv = .bool ch ∧ PlcI wr gp gL cL s A c inp rows' big' ∧ StepI s inp i L0 big (rows'.map (·.ps)) big' ch k n ∧ Below gp w wr ∧ (kk → ∀ r, rows'[i]? = some r → k < r.ps.length)
set_option maxHeartbeats 16000000 in
theorem rstep_any (w0 w : World) (gp gL cL : Nat) (s : Sc) (A : Option Addr) (c : Nat) (inp : ByteArray) (rows : List PRow) (big : Bool) (i : Nat) (hs0 : ScIn w0 s A c) (hgp : w0.heap.size ≤ gp) (hb0 : Below w0.heap.size w0 w) (hI : PlcI w gp gL cL s A c inp rows big) (hG : InvG s inp (rows.map (·.ps))) (hil : i ≤ inp.size) (hok : ScOK s) (hF : FlatS s inp) (hin : inp.size ≤ 40) :
 Calls Tryz.prog 72 #[.pointer (some ⟨gp, 0, none⟩), .int .i64 (i : Int)] w (IsStepG w gp gL cL s A c inp rows big i) := by
 have HS0 : Hid (∀ W, Below gp w W → ScIn W s A c) := fun W h => hs0.below (hb0.trans (h.mono hgp))
 have HI := Lib.hid hI
 have HG := Lib.hid hG
 have HOK := Lib.hid hok
 have HF := Lib.hid hF
 obtain ⟨L0, hL0⟩ : ∃ z, rows.map (·.ps) = z := ⟨_, rfl⟩
 have HL0 := Lib.hid hL0
 have hst : StO w gp gL cL s A c inp i L0 big 0 0 False (.bool false) w := ⟨rows, big, false, rfl, hI, by rw [hL0]; exact .start (hL0 ▸ hG), Below.refl _ _, fun h => h.elim⟩
 have HST := Lib.hid hst
 have hrl := hs0.len
 clear hs0 hb0 hI hG hok hF hL0 hst
 go_enter Tryz.func72, Tryz.ntmps72
 go_wp2_with fail
 go_loopw [5, 6] (fun cv kv wr => ∃ k : Nat, k ≤ 150 ∧ kv = .int .i64 (k : Int) ∧ StO w gp gL cL s A c inp i L0 big k 0 False cv wr) (fun _ kv _ => 151 - (intOf kv).toNat)
 case atStart => exact ⟨0, by omega, rfl, HST.out⟩
 case round =>
  obtain ⟨wR, rfl⟩ : ∃ W, W = wr := ⟨wr, rfl⟩
  obtain ⟨k, hk, rfl, rows1, big1, ch1, rfl, hP1, hSI, hbr, _⟩ := hrel
  have HP1 := Lib.hid hP1
  have HSI := Lib.hid hSI
  have HBR := Lib.hid hbr
  obtain ⟨r1, hr1⟩ : ∃ r, rows1[i]? = some r := ⟨_, List.getElem?_eq_getElem (by have := hSI.inv.len; rw [List.length_map] at this; omega)⟩
  have h150 : r1.ps.length ≤ 150 := hSI.inv.le i r1.ps (by rw [List.getElem?_map, hr1]; rfl)
  have hi1 : i < rows1.length := (List.getElem?_eq_some_iff.1 hr1).1
  have HR1 := Lib.hid hr1
  have hp4 := hP1.hp.cell 4
  have hpl := hP1.hp.lt
  have hrw : wR.cell? ⟨gL, i, none⟩ = some (.slice r1.A r1.ps.length r1.c) := (hP1.row hr1).1
  have hrl2 := hP1.gl.2
  simp at hp4
  have hii : (i : Int) < (rows1.length : Int) := by omega
  have hi0 : (0 : Int) ≤ (i : Int) := by omega
  clear hP1 hSI hbr hr1
  by_cases hlt : k < r1.ps.length
  ·have hki : (k : Int) < (r1.ps.length : Int) := by omega
   have hk0 : (0 : Int) ≤ (k : Int) := by omega
   have HST1 : Hid (StO w gp gL cL s A c inp i L0 big k 0 True (.bool ch1) wR) := ⟨rows1, big1, ch1, rfl, HP1.out, HSI.out, HBR.out, fun _ r hr => by obtain rfl := Option.some.inj (HR1.out.symm.trans hr); exact hlt⟩
   go_wp2_with fail
   go_loopw [5, 7] (fun cv nv wr => ∃ n : Nat, n ≤ s.rs.length ∧ nv = .int .i64 (n : Int) ∧ StO w gp gL cL s A c inp i L0 big k n True cv wr) (fun _ nv _ => s.rs.length - (intOf nv).toNat)
   case atStart => exact ⟨0, Nat.zero_le _, rfl, HST1.out⟩
   case round =>
    clear HP1 HSI HBR HR1 HST1 hp4 hpl hrw hrl2 hii h150 hi1 hlt hki
    obtain ⟨wQ, rfl⟩ : ∃ W, W = wr := ⟨wr, rfl⟩
    obtain ⟨n, hn, rfl, rows2, big2, ch2, rfl, hP2, hSI2, hbq, hkk⟩ := hrel
    have HP2 := Lib.hid hP2
    have HSI2 := Lib.hid hSI2
    have HBQ := Lib.hid hbq
    obtain ⟨r2, hr2⟩ : ∃ r, rows2[i]? = some r := ⟨_, List.getElem?_eq_getElem (by have := hSI2.inv.len; rw [List.length_map] at this; omega)⟩
    have hkl : k < r2.ps.length := hkk trivial r2 hr2
    have h150 : r2.ps.length ≤ 150 := hSI2.inv.le i r2.ps (by rw [List.getElem?_map, hr2]; rfl)
    have hi2 : i < rows2.length := (List.getElem?_eq_some_iff.1 hr2).1
    have HLEN2 : Hid (rows2.length = inp.size + 1) := by have := hSI2.inv.len; rw [List.length_map] at this; exact this
    have HR2 := Lib.hid hr2
    have HKK := Lib.hid hkk
    have hp2 := hP2.hp.cell 2
    have hp3 := hP2.hp.cell 3
    have hp4 := hP2.hp.cell 4
    have hpl := hP2.hp.lt
    have hrl2 := hP2.gl.2
    simp at hp2 hp3 hp4
    by_cases hlt : n < s.rs.length
    ·have hni : (n : Int) < (s.rs.length : Int) := by omega
     have hn0 : (0 : Int) ≤ (n : Int) := by omega
     have hii : (i : Int) < (rows2.length : Int) := by omega
     have hki : (k : Int) < (r2.ps.length : Int) := by omega
     obtain ⟨gr, hA, hgr, hgr2, _, _⟩ := hP2.form hr2 (by omega)
     have hrw : wQ.cell? ⟨gL, i, none⟩ = some (.slice (some ⟨gr, 0, none⟩) r2.ps.length r2.c) := by rw [← hA]; exact (hP2.row hr2).1
     obtain ⟨p, hpk⟩ : ∃ p, r2.ps[k]? = some p := ⟨_, List.getElem?_eq_getElem hkl⟩
     obtain ⟨q0, q1, q2⟩ := SlR.pq (hP2.slr hr2).1 hA hpk
     obtain ⟨bb, off, t, rfl, hbb, hxx, d0, d1, d2, d3, d4⟩ := ((HS0.out _ hbq).sl).ru hlt
     have hru := HOK.out.2.2.2.1 t (List.mem_of_getElem? hxx)
     have hrch := hSI2.inv.rch i r2.ps (by rw [List.getElem?_map, hr2]; rfl) p (List.mem_of_getElem? hpk)
     have hpf := pair_facts HOK.out HF.out hin hil hrch
     have hpo : p.o.size ≤ 1000 := hpf.2.2
     have hpc : 0 ≤ p.c ∧ p.c ≤ 1000000 := hpf.1.2
     have hti := hru.2.1.1
     have hto := hru.2.2.1.1
     have htc := hru.2.2.2
     have HPK := Lib.hid hpk
     have HX := Lib.hid hxx
     clear hP2 hSI2 hbq hr2 hkk hpk hxx hru hrch hpf
     go_upto_region 8 with fail
     go_cut [8, 9] (fun s8 s9 W => ∃ g8 g9 : Nat, s8 = .pointer (some ⟨g8, 0, none⟩) ∧ s9 = .pointer (some ⟨g9, 0, none⟩) ∧ Blk W g8 151 #[.int .i64 p.m, .string p.o, .int .i64 p.c] ∧ Blk W g9 61 #[.int .i64 t.fr, .int .i64 t.to, .string t.inp, .string t.out, .int .i64 t.co] ∧ Below wQ.heap.size wQ W)
     case first =>
      refine ordB_below (.quiet 0 (.quiet 1 (.quiet 2 (.quiet 3 (.quiet 4 (.quiet 5 (.quiet 6 (.quiet 7 (.quiet 8 (.quiet 9 (.quiet 10 (.quiet 11 (.quiet 12 (.quiet 13 (.quiet 14 (.quiet 15 (.quiet 16 (.quiet 17 (.fork 18 19 (.only 19 (.only 20 (.only 21 .done))) (.only 18 (.only 20 (.only 21 .done)))))))))))))))))))))) (by kernel_rfl) (by kernel_rfl) (by kernel_rfl) (fun _ _ _ _ _ h => h) ?_
      intro V0 hV0
      iterate 18 ((first | refine ordB_skip rfl rfl ?_ | (refine ordB_take (v := ?_) rfl rfl ?_ ?_; rotate_left 1; (focus (intro W hW; obtain ⟨hcW, hfW⟩ := bcell hW; (go_simp <;> with_reducible rfl))))); simp only [Act.put, zA, zB, zC])
      refine ordB_fork (opB_call rfl rfl (fun K hK => ?_)) (opB_call rfl rfl (fun K hK => ?_))
      ·go_simp
       refine hK.out _ _ (hV0.alloc hV0.size _) (fun hV0_1 => ?_)
       have XX := Blk.new V0 151 #[.int .i64 0, .string ⟨#[]⟩, .int .i64 0]
       have XXb := nw (.cells #[.int .i64 0, .string ⟨#[]⟩, .int .i64 0] 151) (Below.refl V0.heap.size V0)
       have XXg := hV0.size
       obtain ⟨V0_1, qqV0_1⟩ : ∃ W', V0.alloc (.cells #[.int .i64 0, .string ⟨#[]⟩, .int .i64 0] 151) = W' := ⟨_, rfl⟩
       rw [qqV0_1] at hV0_1 XX XXb ⊢
       clear qqV0_1 XXb
       refine ordB_only (opB_call rfl rfl (fun K hK => ?_))
       have XX_YY := Nat.ne_of_lt XX.lt
       go_simp
       refine hK.out _ _ (hV0_1.alloc hV0_1.size _) (fun hV0_1_2 => ?_)
       have YY := Blk.new V0_1 61 #[.int .i64 0, .int .i64 0, .string ⟨#[]⟩, .string ⟨#[]⟩, .int .i64 0]
       have YYb := nw (.cells #[.int .i64 0, .int .i64 0, .string ⟨#[]⟩, .string ⟨#[]⟩, .int .i64 0] 61) (Below.refl V0_1.heap.size V0_1)
       have YYg := hV0_1.size
       obtain ⟨V0_1_2, qqV0_1_2⟩ : ∃ W', V0_1.alloc (.cells #[.int .i64 0, .int .i64 0, .string ⟨#[]⟩, .string ⟨#[]⟩, .int .i64 0] 61) = W' := ⟨_, rfl⟩
       rw [qqV0_1_2] at hV0_1_2 YY YYb ⊢
       have XX := XX.below YYb XX.lt
       clear qqV0_1_2 YYb
       refine ordB_only (opB_call rfl rfl (fun K hK => ?_))
       have XXc0 := XX.cell 0
       have XXf0 := XX.frozen 0
       have XXc1 := XX.cell 1
       have XXf1 := XX.frozen 1
       have XXc2 := XX.cell 2
       have XXf2 := XX.frozen 2
       simp at XXc0 XXc1 XXc2
       go_simp
       refine hK.out _ _ (((hV0_1_2.setCell (p := ⟨V0.heap.size, 0, none⟩) XXg _).setCell (p := ⟨V0.heap.size, 1, none⟩) XXg _).setCell (p := ⟨V0.heap.size, 2, none⟩) XXg _) (fun hV0_1_2_3 => ?_)
       have XX := (((XX.set_ 0 (.int .i64 p.m)).set_ 1 (.string p.o)).set_ 2 (.int .i64 p.c))
       have YYne : V0_1.heap.size ≠ V0.heap.size := by first | exact YY_XX | exact XX_YY.symm
       have YY := (((YY.far (p := ⟨V0.heap.size, 0, none⟩) YYne (.int .i64 p.m)).far (p := ⟨V0.heap.size, 1, none⟩) YYne (.string p.o)).far (p := ⟨V0.heap.size, 2, none⟩) YYne (.int .i64 p.c))
       obtain ⟨V0_1_2_3, qqV0_1_2_3⟩ : ∃ W', (((V0_1_2.setCell ⟨V0.heap.size, 0, none⟩ (.int .i64 p.m)).setCell ⟨V0.heap.size, 1, none⟩ (.string p.o)).setCell ⟨V0.heap.size, 2, none⟩ (.int .i64 p.c)) = W' := ⟨_, rfl⟩
       rw [qqV0_1_2_3] at hV0_1_2_3 XX YY ⊢
       clear qqV0_1_2_3 XXc0 XXf0 XXc1 XXf1 XXc2 XXf2
       refine ordB_only (opB_call rfl rfl (fun K hK => ?_))
       have YYc0 := YY.cell 0
       have YYf0 := YY.frozen 0
       have YYc1 := YY.cell 1
       have YYf1 := YY.frozen 1
       have YYc2 := YY.cell 2
       have YYf2 := YY.frozen 2
       have YYc3 := YY.cell 3
       have YYf3 := YY.frozen 3
       have YYc4 := YY.cell 4
       have YYf4 := YY.frozen 4
       simp at YYc0 YYc1 YYc2 YYc3 YYc4
       go_simp
       refine hK.out _ _ (((((hV0_1_2_3.setCell (p := ⟨V0_1.heap.size, 0, none⟩) YYg _).setCell (p := ⟨V0_1.heap.size, 1, none⟩) YYg _).setCell (p := ⟨V0_1.heap.size, 2, none⟩) YYg _).setCell (p := ⟨V0_1.heap.size, 3, none⟩) YYg _).setCell (p := ⟨V0_1.heap.size, 4, none⟩) YYg _) (fun hV0_1_2_3_4 => ?_)
       have YY := (((((YY.set_ 0 (.int .i64 t.fr)).set_ 1 (.int .i64 t.to)).set_ 2 (.string t.inp)).set_ 3 (.string t.out)).set_ 4 (.int .i64 t.co))
       have XXne : V0.heap.size ≠ V0_1.heap.size := by first | exact XX_YY | exact YY_XX.symm
       have XX := (((((XX.far (p := ⟨V0_1.heap.size, 0, none⟩) XXne (.int .i64 t.fr)).far (p := ⟨V0_1.heap.size, 1, none⟩) XXne (.int .i64 t.to)).far (p := ⟨V0_1.heap.size, 2, none⟩) XXne (.string t.inp)).far (p := ⟨V0_1.heap.size, 3, none⟩) XXne (.string t.out)).far (p := ⟨V0_1.heap.size, 4, none⟩) XXne (.int .i64 t.co))
       obtain ⟨V0_1_2_3_4, qqV0_1_2_3_4⟩ : ∃ W', (((((V0_1_2_3.setCell ⟨V0_1.heap.size, 0, none⟩ (.int .i64 t.fr)).setCell ⟨V0_1.heap.size, 1, none⟩ (.int .i64 t.to)).setCell ⟨V0_1.heap.size, 2, none⟩ (.string t.inp)).setCell ⟨V0_1.heap.size, 3, none⟩ (.string t.out)).setCell ⟨V0_1.heap.size, 4, none⟩ (.int .i64 t.co)) = W' := ⟨_, rfl⟩
       rw [qqV0_1_2_3_4] at hV0_1_2_3_4 YY XX ⊢
       clear qqV0_1_2_3_4 YYc0 YYf0 YYc1 YYf1 YYc2 YYf2 YYc3 YYf3 YYc4 YYf4
       refine ordB_nil ?_
       go_wp2_with fail
       go_meet
       exact ⟨_, _, rfl, rfl, XX, YY, hV0_1_2_3_4⟩
      ·go_simp
       refine hK.out _ _ (hV0.alloc hV0.size _) (fun hV0_1 => ?_)
       have YY := Blk.new V0 61 #[.int .i64 0, .int .i64 0, .string ⟨#[]⟩, .string ⟨#[]⟩, .int .i64 0]
       have YYb := nw (.cells #[.int .i64 0, .int .i64 0, .string ⟨#[]⟩, .string ⟨#[]⟩, .int .i64 0] 61) (Below.refl V0.heap.size V0)
       have YYg := hV0.size
       obtain ⟨V0_1, qqV0_1⟩ : ∃ W', V0.alloc (.cells #[.int .i64 0, .int .i64 0, .string ⟨#[]⟩, .string ⟨#[]⟩, .int .i64 0] 61) = W' := ⟨_, rfl⟩
       rw [qqV0_1] at hV0_1 YY YYb ⊢
       clear qqV0_1 YYb
       refine ordB_only (opB_call rfl rfl (fun K hK => ?_))
       have YY_XX := Nat.ne_of_lt YY.lt
       go_simp
       refine hK.out _ _ (hV0_1.alloc hV0_1.size _) (fun hV0_1_2 => ?_)
       have XX := Blk.new V0_1 151 #[.int .i64 0, .string ⟨#[]⟩, .int .i64 0]
       have XXb := nw (.cells #[.int .i64 0, .string ⟨#[]⟩, .int .i64 0] 151) (Below.refl V0_1.heap.size V0_1)
       have XXg := hV0_1.size
       obtain ⟨V0_1_2, qqV0_1_2⟩ : ∃ W', V0_1.alloc (.cells #[.int .i64 0, .string ⟨#[]⟩, .int .i64 0] 151) = W' := ⟨_, rfl⟩
       rw [qqV0_1_2] at hV0_1_2 XX XXb ⊢
       have YY := YY.below XXb YY.lt
       clear qqV0_1_2 XXb
       refine ordB_only (opB_call rfl rfl (fun K hK => ?_))
       have XXc0 := XX.cell 0
       have XXf0 := XX.frozen 0
       have XXc1 := XX.cell 1
       have XXf1 := XX.frozen 1
       have XXc2 := XX.cell 2
       have XXf2 := XX.frozen 2
       simp at XXc0 XXc1 XXc2
       go_simp
       refine hK.out _ _ (((hV0_1_2.setCell (p := ⟨V0_1.heap.size, 0, none⟩) XXg _).setCell (p := ⟨V0_1.heap.size, 1, none⟩) XXg _).setCell (p := ⟨V0_1.heap.size, 2, none⟩) XXg _) (fun hV0_1_2_3 => ?_)
       have XX := (((XX.set_ 0 (.int .i64 p.m)).set_ 1 (.string p.o)).set_ 2 (.int .i64 p.c))
       have YYne : V0.heap.size ≠ V0_1.heap.size := by first | exact YY_XX | exact XX_YY.symm
       have YY := (((YY.far (p := ⟨V0_1.heap.size, 0, none⟩) YYne (.int .i64 p.m)).far (p := ⟨V0_1.heap.size, 1, none⟩) YYne (.string p.o)).far (p := ⟨V0_1.heap.size, 2, none⟩) YYne (.int .i64 p.c))
       obtain ⟨V0_1_2_3, qqV0_1_2_3⟩ : ∃ W', (((V0_1_2.setCell ⟨V0_1.heap.size, 0, none⟩ (.int .i64 p.m)).setCell ⟨V0_1.heap.size, 1, none⟩ (.string p.o)).setCell ⟨V0_1.heap.size, 2, none⟩ (.int .i64 p.c)) = W' := ⟨_, rfl⟩
       rw [qqV0_1_2_3] at hV0_1_2_3 XX YY ⊢
       clear qqV0_1_2_3 XXc0 XXf0 XXc1 XXf1 XXc2 XXf2
       refine ordB_only (opB_call rfl rfl (fun K hK => ?_))
       have YYc0 := YY.cell 0
       have YYf0 := YY.frozen 0
       have YYc1 := YY.cell 1
       have YYf1 := YY.frozen 1
       have YYc2 := YY.cell 2
       have YYf2 := YY.frozen 2
       have YYc3 := YY.cell 3
       have YYf3 := YY.frozen 3
       have YYc4 := YY.cell 4
       have YYf4 := YY.frozen 4
       simp at YYc0 YYc1 YYc2 YYc3 YYc4
       go_simp
       refine hK.out _ _ (((((hV0_1_2_3.setCell (p := ⟨V0.heap.size, 0, none⟩) YYg _).setCell (p := ⟨V0.heap.size, 1, none⟩) YYg _).setCell (p := ⟨V0.heap.size, 2, none⟩) YYg _).setCell (p := ⟨V0.heap.size, 3, none⟩) YYg _).setCell (p := ⟨V0.heap.size, 4, none⟩) YYg _) (fun hV0_1_2_3_4 => ?_)
       have YY := (((((YY.set_ 0 (.int .i64 t.fr)).set_ 1 (.int .i64 t.to)).set_ 2 (.string t.inp)).set_ 3 (.string t.out)).set_ 4 (.int .i64 t.co))
       have XXne : V0_1.heap.size ≠ V0.heap.size := by first | exact XX_YY | exact YY_XX.symm
       have XX := (((((XX.far (p := ⟨V0.heap.size, 0, none⟩) XXne (.int .i64 t.fr)).far (p := ⟨V0.heap.size, 1, none⟩) XXne (.int .i64 t.to)).far (p := ⟨V0.heap.size, 2, none⟩) XXne (.string t.inp)).far (p := ⟨V0.heap.size, 3, none⟩) XXne (.string t.out)).far (p := ⟨V0.heap.size, 4, none⟩) XXne (.int .i64 t.co))
       obtain ⟨V0_1_2_3_4, qqV0_1_2_3_4⟩ : ∃ W', (((((V0_1_2_3.setCell ⟨V0.heap.size, 0, none⟩ (.int .i64 t.fr)).setCell ⟨V0.heap.size, 1, none⟩ (.int .i64 t.to)).setCell ⟨V0.heap.size, 2, none⟩ (.string t.inp)).setCell ⟨V0.heap.size, 3, none⟩ (.string t.out)).setCell ⟨V0.heap.size, 4, none⟩ (.int .i64 t.co)) = W' := ⟨_, rfl⟩
       rw [qqV0_1_2_3_4] at hV0_1_2_3_4 YY XX ⊢
       clear qqV0_1_2_3_4 YYc0 YYf0 YYc1 YYf1 YYc2 YYf2 YYc3 YYf3 YYc4 YYf4
       refine ordB_nil ?_
       go_wp2_with fail
       go_meet
       exact ⟨_, _, rfl, rfl, XX, YY, hV0_1_2_3_4⟩
     case rest =>
      obtain ⟨X1, rfl⟩ : ∃ W, W = wc := ⟨wc, rfl⟩
      obtain ⟨g8, g9, rfl, rfl, hB8, hB9, hb1⟩ := hcut
      have HPX := Lib.hid (HP2.out.below hb1)
      have HBX : Hid (Below gp w X1) := HBQ.out.trans (hb1.mono (Nat.le_of_lt hpl))
      have hp3 := HPX.out.hp.cell 3
      have hpl := HPX.out.hp.lt
      have x0 := hB8.cell 0
      have x1 := hB8.cell 1
      have x2 := hB8.cell 2
      have xl := hB8.lt
      have y0 := hB9.cell 0
      have y1 := hB9.cell 1
      have y2 := hB9.cell 2
      have y3 := hB9.cell 3
      have y4 := hB9.cell 4
      have yl := hB9.lt
      simp at hp3 x0 x1 x2 y0 y1 y2 y3 y4
      have HX8 := Lib.hid hB8
      have HX9 := Lib.hid hB9
      have hwt : IntKind.i64.wrap ((i : Int) + (t.inp.size : Int)) = ((i + t.inp.size : Nat) : Int) := by rw [← Int.natCast_add]; exact IntWalk.i64_in _ (by omega)
      clear hb1 hB8 hB9 q0 q1 q2 d0 d1 d2 d3 d4 hbb hp2 hp4 hrw hrl2
      obtain ⟨tt, htt⟩ : ∃ z, i + t.inp.size = z := ⟨_, rfl⟩
      rw [htt] at hwt
      have HTT := Lib.hid htt
      have htt44 : tt ≤ 44 := by omega
      clear htt
      go_upto_region 10 with fail
      go_cut [82] (fun s82 W => IsPutB (¬ (t.fr = p.m ∧ bl t.inp <+: (bl inp).drop i)) ((t.fr = p.m ∧ bl t.inp <+: (bl inp).drop i) ∧ tt ≤ inp.size) s82 ∧ Below X1.heap.size X1 W)
      case first =>
       by_cases hm : t.fr = p.m
       ·have hm2 : (t.fr == p.m) = true := by simpa using hm
        have HM := Lib.hid hm
        have hm3 : (t.fr != p.m) = false := by rw [hm]; simp
        rw [hm] at y0
        clear hm
        by_cases hle : tt ≤ inp.size
        ·have hlei : ¬ (inp.size : Int) < (tt : Int) := by omega
         have hs1 : (i : Int) ≤ (tt : Int) := by have := HTT.out; omega
         have hs2 : (tt : Int) ≤ (inp.size : Int) := by omega
         have hs3 : (0 : Int) ≤ (i : Int) := by omega
         have hs4 : (0 : Int) ≤ (tt : Int) := by omega
         by_cases heq : inp.extract i tt = t.inp
         ·have heq2 : ((inp.extract i tt).toList == t.inp.toList) = true := by rw [heq]; simp
          have HYES : Hid ((t.fr = p.m ∧ bl t.inp <+: (bl inp).drop i) ∧ tt ≤ inp.size) := ⟨⟨HM.out, (ext_pre (by rw [HTT.out]; exact hle)).1 (by rw [HTT.out]; exact heq)⟩, hle⟩
          clear heq
          refine ordB_below (.quiet 0 (.quiet 1 (.quiet 2 (.quiet 3 (.quiet 4 (.quiet 5 (.quiet 6 (.quiet 7 (.quiet 8 (.quiet 9 (.quiet 10 (.quiet 11 (.quiet 12 (.quiet 13 (.quiet 14 (.quiet 15 (.quiet 16 (.quiet 17 (.quiet 18 (.quiet 19 (.quiet 20 (.quiet 21 (.quiet 22 (.quiet 23 (.quiet 24 (.quiet 25 .done)))))))))))))))))))))))))) (by kernel_rfl) (by kernel_rfl) (by kernel_rfl) (fun _ _ _ _ _ h => h) ?_
          intro V0 hV0
          iterate 26 ((first | refine ordB_skip rfl rfl ?_ | (refine ordB_take (v := ?_) rfl rfl ?_ ?_; rotate_left 1; (focus (intro W hW; obtain ⟨hcW, hfW⟩ := bcell hW; (go_simp <;> with_reducible rfl))))); simp only [Act.put, zA, zB, zC])
          refine ordB_nil ?_
          go_wp2_with fail
          go_meet
          exact ⟨.no HYES.out, hV0⟩
         ·have heq2 : ((inp.extract i tt).toList == t.inp.toList) = false := by rw [beq_eq_false_iff_ne]; exact fun e => heq (toL_inj e)
          have HNO : Hid (¬ (t.fr = p.m ∧ bl t.inp <+: (bl inp).drop i)) := fun h => heq (by have := (ext_pre (by rw [HTT.out]; exact hle)).2 h.2; rw [HTT.out] at this; exact this)
          clear heq
          refine ordB_below (.quiet 0 (.quiet 1 (.quiet 2 (.quiet 3 (.quiet 4 (.quiet 5 (.quiet 6 (.quiet 7 (.quiet 8 (.quiet 9 (.quiet 10 (.quiet 11 (.quiet 12 (.quiet 13 (.quiet 14 (.quiet 15 (.quiet 16 (.quiet 17 (.quiet 18 (.quiet 19 (.quiet 20 (.quiet 21 (.quiet 22 (.quiet 23 (.quiet 24 (.quiet 25 .done)))))))))))))))))))))))))) (by kernel_rfl) (by kernel_rfl) (by kernel_rfl) (fun _ _ _ _ _ h => h) ?_
          intro V0 hV0
          iterate 26 ((first | refine ordB_skip rfl rfl ?_ | (refine ordB_take (v := ?_) rfl rfl ?_ ?_; rotate_left 1; (focus (intro W hW; obtain ⟨hcW, hfW⟩ := bcell hW; (go_simp <;> with_reducible rfl))))); simp only [Act.put, zA, zB, zC])
          refine ordB_nil ?_
          go_wp2_with fail
          go_meet
          exact ⟨.yes (fun h => HNO.out h), hV0⟩
        ·have hlei : (inp.size : Int) < (tt : Int) := by omega
         have HNO : Hid (¬ (t.fr = p.m ∧ bl t.inp <+: (bl inp).drop i)) := fun h => by
          have h2 := h.2.length_le
          rw [bl_len, List.length_drop, bl_len] at h2
          have := HTT.out
          omega
         refine ordB_below (.quiet 0 (.quiet 1 (.quiet 2 (.quiet 3 (.quiet 4 (.quiet 5 (.quiet 6 (.quiet 7 (.quiet 8 (.quiet 9 (.quiet 10 (.quiet 11 (.quiet 12 (.quiet 13 (.quiet 14 (.quiet 15 (.quiet 16 (.quiet 17 (.quiet 18 (.quiet 19 (.quiet 20 (.quiet 21 (.quiet 22 (.quiet 23 (.quiet 24 (.quiet 25 .done)))))))))))))))))))))))))) (by kernel_rfl) (by kernel_rfl) (by kernel_rfl) (fun _ _ _ _ _ h => h) ?_
         intro V0 hV0
         iterate 26 ((first | refine ordB_skip rfl rfl ?_ | (refine ordB_take (v := ?_) rfl rfl ?_ ?_; rotate_left 1; (focus (intro W hW; obtain ⟨hcW, hfW⟩ := bcell hW; (go_simp <;> with_reducible rfl))))); simp only [Act.put, zA, zB, zC])
         refine ordB_nil ?_
         go_wp2_with fail
         go_meet
         exact ⟨.yes (fun h => HNO.out h), hV0⟩
       ·have hm2 : (t.fr == p.m) = false := by simpa using hm
        have hm3 : (t.fr != p.m) = true := by rw [bne, hm2]; rfl
        have HNO : Hid (¬ (t.fr = p.m ∧ bl t.inp <+: (bl inp).drop i)) := fun h => hm h.1
        refine ordB_below (.quiet 0 (.quiet 1 (.quiet 2 (.quiet 3 (.quiet 4 (.quiet 5 (.quiet 6 (.quiet 7 (.quiet 8 (.quiet 9 (.quiet 10 (.quiet 11 (.quiet 12 (.quiet 13 (.quiet 14 (.quiet 15 (.quiet 16 (.quiet 17 (.quiet 18 (.quiet 19 (.quiet 20 (.quiet 21 (.quiet 22 (.quiet 23 (.quiet 24 (.quiet 25 .done)))))))))))))))))))))))))) (by kernel_rfl) (by kernel_rfl) (by kernel_rfl) (fun _ _ _ _ _ h => h) ?_
        intro V0 hV0
        iterate 26 ((first | refine ordB_skip rfl rfl ?_ | (refine ordB_take (v := ?_) rfl rfl ?_ ?_; rotate_left 1; (focus (intro W hW; obtain ⟨hcW, hfW⟩ := bcell hW; (go_simp <;> with_reducible rfl))))); simp only [Act.put, zA, zB, zC])
        refine ordB_nil ?_
        go_wp2_with fail
        go_meet
        exact ⟨.yes (fun h => HNO.out h), hV0⟩
      case rest =>
       obtain ⟨X2, rfl⟩ : ∃ W, W = wc := ⟨wc, rfl⟩
       obtain ⟨⟨bb, rfl, hno, hyes⟩, hb2⟩ := hcut
       have HNO := Lib.hid hno
       have HYS := Lib.hid hyes
       have HPY := Lib.hid (HPX.out.below hb2)
       have HBY : Hid (Below gp w X2) := HBX.out.trans (hb2.mono (Nat.le_of_lt hpl))
       have x1 := (HX8.out.below hb2 HX8.out.lt).cell 1
       have x2 := (HX8.out.below hb2 HX8.out.lt).cell 2
       have xl := (HX8.out.below hb2 HX8.out.lt).lt
       have y1 := (HX9.out.below hb2 HX9.out.lt).cell 1
       have y3 := (HX9.out.below hb2 HX9.out.lt).cell 3
       have y4 := (HX9.out.below hb2 HX9.out.lt).cell 4
       have yl := (HX9.out.below hb2 HX9.out.lt).lt
       simp at x1 x2 y1 y3 y4
       have HPS : Hid ((rows2.map (·.ps))[i]? = some r2.ps) := by show (rows2.map (·.ps))[i]? = some r2.ps; rw [List.getElem?_map, HR2.out]; rfl
       clear hno hyes hb2 hp3 hpl
       cases hbv : bb with
       | true =>
        have HSK : Hid (StepI s inp i L0 big (rows2.map (·.ps)) big2 ch2 k (n + 1)) := HSI2.out.skip HPS.out HPK.out HX.out (HNO.out hbv)
        go_wp2_with fail
        go_roundw
        case rel => exact ⟨n + 1, by omega, by go_num, rows2, big2, ch2, rfl, HPY.out, HSK.out, HBY.out, HKK.out⟩
        case measure => simp [intOf]; omega
       | false =>
        have HYE := Lib.hid (HYS.out hbv)
        have hr3 := step_rch HSI2.out.inv HPS.out HPK.out HX.out HYE.out.1.1 HYE.out.1.2
        have hf3 := pair_facts HOK.out HF.out hin (by rw [HTT.out]; exact HYE.out.2) hr3
        have HXC : Hid (0 ≤ p.c + t.co ∧ p.c + t.co ≤ 1000000) := hf3.1.2
        clear hr3 hf3
        have httl : tt < rows2.length := by rw [HLEN2.out]; have := HYE.out.2; omega
        obtain ⟨r3, hr3⟩ : ∃ r, rows2[tt]? = some r := ⟨_, List.getElem?_eq_getElem httl⟩
        have h1503 : r3.ps.length ≤ 150 := HSI2.out.inv.le tt r3.ps (by rw [List.getElem?_map, hr3]; rfl)
        have HAD := Lib.hid (radd_any X2 gp gL cL s _ c inp rows2 big2 tt r3 ⟨t.to, p.o ++ t.out, p.c + t.co⟩ HPY.out hr3 h1503 (by have := HLEN2.out; omega))
        have HR3 := Lib.hid hr3
        have hz1 : ¬ 9223372036854775807 < p.o.size + t.out.size := by omega
        have hz2 : IntKind.i64.wrap (p.c + t.co) = p.c + t.co := IntWalk.i64_in _ (by omega)
        clear hr3 httl
        go_upto_region 12 with (go_at_call 71; go_loud (refine HAD.out.mono ?_; rintro e X3 hadd; obtain ⟨rows3, big3, fresh, rfl, hP3, hAR, hb3⟩ := hadd; have HP3 := Lib.hid hP3; have HAR := Lib.hid hAR; have HB3 := Lib.hid hb3; clear hP3 hAR hb3))
        obtain ⟨b0, hb0⟩ : ∃ b, (ch2 || (fresh && decide (tt = i))) = b := ⟨_, rfl⟩
        have HB0 := Lib.hid hb0
        clear hb0
        have HAL := Lib.hid (addR_L HAR.out HR3.out)
        have HSN : Hid (StepI s inp i L0 big (rows3.map (·.ps)) big3 b0 k (n + 1)) := by
         have := HSI2.out.add HPS.out HPK.out HX.out HYE.out.1.1 HYE.out.1.2 HXC.out (by rw [HTT.out]; exact HAL.out)
         rw [HTT.out, HB0.out] at this
         exact this
        have HKN : Hid (∀ r, rows3[i]? = some r → k < r.ps.length) := fun r hr => Nat.lt_of_lt_of_le hkl (HAL.out.grow HPS.out (by rw [List.getElem?_map, hr]; rfl))
        cases hch : ch2 with
        | true =>
         have HE : Hid (b0 = true) := by show b0 = true; rw [← HB0.out, hch]; rfl
         have HSV : Hid (StepI s inp i L0 big (rows3.map (·.ps)) big3 true k (n + 1)) := by have := HSN.out; rw [HE.out] at this; exact this
         go_wp2_with fail
         go_roundw
         case rel => exact ⟨n + 1, by omega, by go_num, rows3, big3, true, rfl, HP3.out, HSV.out, HBY.out.trans HB3.out, fun _ => HKN.out⟩
         case measure => simp [intOf]; omega
        | false =>
         cases hfr : fresh with
         | false =>
          have HE : Hid (b0 = false) := by show b0 = false; rw [← HB0.out, hch, hfr]; rfl
          have HSV : Hid (StepI s inp i L0 big (rows3.map (·.ps)) big3 false k (n + 1)) := by have := HSN.out; rw [HE.out] at this; exact this
          go_wp2_with fail
          go_roundw
          case rel => exact ⟨n + 1, by omega, by go_num, rows3, big3, false, rfl, HP3.out, HSV.out, HBY.out.trans HB3.out, fun _ => HKN.out⟩
          case measure => simp [intOf]; omega
         | true =>
          by_cases hti : tt = i
          ·have hti2 : ((tt : Int) == (i : Int)) = true := by rw [hti]; simp
           have HE : Hid (b0 = true) := by show b0 = true; rw [← HB0.out, hch, hfr, hti]; simp
           have hti4 : (tt : Int) = (i : Int) := by omega
           clear hti
           have HSV : Hid (StepI s inp i L0 big (rows3.map (·.ps)) big3 true k (n + 1)) := by have := HSN.out; rw [HE.out] at this; exact this
           go_wp2_with fail
           go_roundw
           case rel => exact ⟨n + 1, by omega, by go_num, rows3, big3, true, rfl, HP3.out, HSV.out, HBY.out.trans HB3.out, fun _ => HKN.out⟩
           case measure => simp [intOf]; omega
          ·have hti2 : ((tt : Int) == (i : Int)) = false := by rw [beq_eq_false_iff_ne]; omega
           have HE : Hid (b0 = false) := by show b0 = false; rw [← HB0.out, hch, hfr, decide_eq_false hti]; rfl
           have HSV : Hid (StepI s inp i L0 big (rows3.map (·.ps)) big3 false k (n + 1)) := by have := HSN.out; rw [HE.out] at this; exact this
           go_wp2_with fail
           go_roundw
           case rel => exact ⟨n + 1, by omega, by go_num, rows3, big3, false, rfl, HP3.out, HSV.out, HBY.out.trans HB3.out, fun _ => HKN.out⟩
           case measure => simp [intOf]; omega
    ·obtain rfl : n = s.rs.length := by omega
     have hni : ¬ ((s.rs.length : Nat) : Int) < (s.rs.length : Int) := by omega
     clear hP2 hSI2 hbq hr2 hkk
     go_wp2_with fail
     go_roundw
     case rel => exact ⟨k + 1, by omega, by go_num, rows2, big2, ch2, rfl, HP2.out, HSI2.out.next, HBQ.out, fun h => h.elim⟩
     case measure => simp [intOf]; omega
  ·have hki : ¬ (k : Int) < (r1.ps.length : Int) := by omega
   go_wp2_with fail
   go_ret
   refine ⟨rows1, big1, ch1, rfl, HP1.out, ?_, HBR.out⟩
   rw [HL0.out]
   exact HSI.out.fin (ps := r1.ps) (by rw [List.getElem?_map, HR1.out]; rfl) (Nat.not_lt.1 hlt)
end Go.Proofs.YtfpnhgahkjglgaaGreat
