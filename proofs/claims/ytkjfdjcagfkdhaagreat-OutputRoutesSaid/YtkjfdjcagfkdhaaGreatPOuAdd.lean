/-
  The walk of layer 05's reference: a pair more.
-/
import Derived.Test.YtkjfdjcagfkdhaaGreatPOuPl
import Derived.Test.YtkjfdjcagfkdhaaGreatP28
import Derived.Test.YtkjfdjcagfkdhaaGreatP24
import Derived.Test.YtkjfdjcagfkdhaaGreatP05
namespace Go.Proofs.YtkjfdjcagfkdhaaGreat
open Go Go.RowKit

/-- What a pair more does. -/
def AddR (rows : List PRow) (i : Nat) (r : PRow) (x : Pq) (rows' : List PRow) (big big' fresh : Bool) : Prop :=
  (∃ k p, r.ps[k]? = some p ∧ p.m = x.m ∧ p.o = x.o ∧ big' = big ∧ fresh = decide (x.c < p.c) ∧ ∃ A' c', rows' = rows.set i ⟨A', c', r.ps.set k ⟨p.m, p.o, if x.c < p.c then x.c else p.c⟩⟩) ∨
  ((∀ p ∈ r.ps, ¬ (p.m = x.m ∧ p.o = x.o)) ∧ 150 ≤ r.ps.length ∧ rows' = rows ∧ big' = true ∧ fresh = false) ∨
  ((∀ p ∈ r.ps, ¬ (p.m = x.m ∧ p.o = x.o)) ∧ r.ps.length < 150 ∧ big' = big ∧ fresh = true ∧ ∃ A' c', rows' = rows.set i ⟨A', c', r.ps ++ [x]⟩)
def IsAdd (w : World) (gp gL cL : Nat) (s : Sc) (A : Option Addr) (c : Nat) (inp : ByteArray) (rows : List PRow) (big : Bool) (i : Nat) (r : PRow) (x : Pq) (e : Ending) (w' : World) : Prop :=
  ∃ rows' big' fresh, e = .returned (.bool fresh) ∧ PlcI w' gp gL cL s A c inp rows' big' ∧ AddR rows i r x rows' big big' fresh ∧ Below gp w w'
theorem pair_info5 : (Tryz.prog.info? 94).map (fun i => (i.zero, i.size, i.bytes)) = some (some (.agg #[.int .i64 0, .string ⟨#[]⟩, .int .i64 0]), 3, 32) := by kernel_rfl
set_option maxRecDepth 100000 in
set_option maxHeartbeats 16000000 in
theorem radd_any (w : World) (gp gL cL : Nat) (s : Sc) (A : Option Addr) (c : Nat) (inp : ByteArray) (rows : List PRow) (big : Bool) (i : Nat) (r : PRow) (x : Pq) (hI : PlcI w gp gL cL s A c inp rows big) (hi : rows[i]? = some r) (h150 : r.ps.length ≤ 150) (_hrl : rows.length ≤ 1000) :
    Calls Tryz.prog 39 #[.pointer (some ⟨gp, 0, none⟩), .int .i64 (i : Int), .agg #[.int .i64 x.m, .string x.o, .int .i64 x.c]] w (IsAdd w gp gL cL s A c inp rows big i r x) := by
  obtain ⟨i0, hinf, hz0, hz1, hz2⟩ := info_partsR pair_info5
  obtain ⟨w1, hw1⟩ : ∃ w1, w.alloc (.cells #[.int .i64 x.m, .string x.o, .int .i64 x.c] 94) = w1 := ⟨_, rfl⟩
  obtain ⟨g5, hg5⟩ : ∃ g, w.heap.size = g := ⟨_, rfl⟩
  have hX5 : Blk w1 g5 94 #[.int .i64 x.m, .string x.o, .int .i64 x.c] := by rw [← hw1]; exact Blk.new_ hg5.symm
  have hb1 : Below w.heap.size w w1 := by rw [← hw1]; exact nw _ (Below.refl _ _)
  have hP1 := hI.below hb1
  have hgl0 := hI.gl
  have hil : i < rows.length := (List.getElem?_eq_some_iff.1 hi).1
  have hgp5 : gp < g5 := by omega
  have hrow := hI.row hi
  have hcL : rows.length ≤ cL := hrow.2.2
  have HW1 := Lib.hid hw1
  have HG5 := Lib.hid hg5
  have HX5 := Lib.hid hX5
  have HP := Lib.hid hP1
  have HB1 : Hid (Below gp w w1) := hb1.mono (by omega)
  have hs1 : g5 < w1.heap.size := hX5.lt
  have HLT : Hid (∀ q, r.val.ownBlock = some q → q < g5 ∧ gp < q) := fun q hq => by have := (hI.own i r hi).lt q hq; omega
  clear hw1 hX5 hP1 hb1 hI hrow hg5
  go_enter Tryz.func39, Tryz.ntmps39
  go_upto_region 1 with fail
  rw [HW1.out, HG5.out]
  go_wp2_with fail
  go_loopw [7] (fun iv wr => ∃ k : Nat, k ≤ r.ps.length ∧ iv = .int .i64 (k : Int) ∧ Hid (∀ p ∈ r.ps.take k, ¬ (p.m = x.m ∧ p.o = x.o)) ∧ Below w1.heap.size w1 wr) (fun iv _ => r.ps.length - (intOf iv).toNat)
  case atStart => exact ⟨0, Nat.zero_le _, rfl, (fun p hp => by cases hp), Below.refl _ _⟩
  case round =>
    obtain ⟨k, hk, rfl, HNO, hbr⟩ := hrel
    have HPR := Lib.hid (HP.out.below hbr)
    have HBW : Hid (Below gp w wr) := HB1.out.trans (hbr.mono (by omega))
    have HBX1 := Lib.hid hbr
    have hp4 := HPR.out.hp.cell 4
    have hpl := HPR.out.hp.lt
    have hrl2 := HPR.out.gl.2
    have hx0 := (HX5.out.below hbr HX5.out.lt).cell 0
    have hx1 := (HX5.out.below hbr HX5.out.lt).cell 1
    have hx2 := (HX5.out.below hbr HX5.out.lt).cell 2
    have hxl := (HX5.out.below hbr HX5.out.lt).lt
    have hrw : wr.cell? ⟨gL, i, none⟩ = some (.slice r.A r.ps.length r.c) := (HPR.out.row hi).1
    simp at hp4 hx0 hx1 hx2
    have hii : (i : Int) < (rows.length : Int) := by omega
    have hi0 : (0 : Int) ≤ (i : Int) := by omega
    clear hbr
    by_cases hlt : k < r.ps.length
    · have hki : (k : Int) < (r.ps.length : Int) := by omega
      have hk0 : (0 : Int) ≤ (k : Int) := by omega
      obtain ⟨p, hk'⟩ : ∃ p, r.ps[k]? = some p := ⟨_, List.getElem?_eq_getElem hlt⟩
      obtain ⟨gr, hA, hgr, hgr2, hgr3, hgr4⟩ := HPR.out.form hi (by omega)
      have hgr5 : gr < g5 := (HLT.out gr hgr4).1
      rw [hA] at hrw
      have hcc := SlR.pq (HPR.out.slr hi).1 hA hk'
      obtain ⟨q0, q1, q2⟩ := hcc
      have HK' := Lib.hid hk'
      clear hk'
      go_upto_region 5 with fail
      obtain ⟨g8, hg8⟩ : ∃ z, wr.heap.size = z := ⟨_, rfl⟩
      obtain ⟨X1, hX1⟩ : ∃ W, wr.alloc (.cells #[.int .i64 p.m, .string p.o, .int .i64 p.c] 94) = W := ⟨_, rfl⟩
      have hX8 : Blk X1 g8 94 #[.int .i64 p.m, .string p.o, .int .i64 p.c] := by rw [← hX1]; exact Blk.new_ hg8.symm
      have hbX : Below wr.heap.size wr X1 := by rw [← hX1]; exact nw _ (Below.refl _ _)
      rw [hg8, hX1]
      have HP1 := Lib.hid (HPR.out.below hbX)
      have HBX : Hid (Below gp w X1) := HBW.out.trans (hbX.mono (by omega))
      have HBX1 : Hid (Below w1.heap.size w1 X1) := HBX1.out.trans (hbX.mono HBX1.out.size)
      have HX8 := Lib.hid hX8
      have hgX : gr < X1.heap.size := Nat.lt_of_lt_of_le hgr2 hbX.size
      have h58 : g5 < g8 := by rw [← hg8]; exact hxl
      have hx0 := (hbX.cell (p := ⟨g5, _, none⟩) hxl).trans hx0
      have hx1 := (hbX.cell (p := ⟨g5, _, none⟩) hxl).trans hx1
      have hx2 := (hbX.cell (p := ⟨g5, _, none⟩) hxl).trans hx2
      have hxl := Nat.lt_of_lt_of_le hxl hbX.size
      have p0 := hX8.cell 0
      have p1 := hX8.cell 1
      have p2 := hX8.cell 2
      have pl := hX8.lt
      have hp4 := HP1.out.hp.cell 4
      have hpl := HP1.out.hp.lt
      have hrl2 := HP1.out.gl.2
      have hrw : X1.cell? ⟨gL, i, none⟩ = some (.slice r.A r.ps.length r.c) := (HP1.out.row hi).1
      rw [hA] at hrw
      simp at p0 p1 p2 hp4
      clear hX1 hg8 hX8 hbX q0 q1 q2
      go_cut [42] (fun s42 W => s42 = .bool (decide (p.m = x.m ∧ p.o = x.o)) ∧ X1 = W)
      case first =>
        by_cases hm : p.m = x.m
        · have hm2 : (p.m == x.m) = true := by simpa using hm
          by_cases ho : p.o = x.o
          · have ho2 : (p.o.toList == x.o.toList) = true := by rw [ho]; simp
            have HD : Hid (decide (p.m = x.m ∧ p.o = x.o) = true) := decide_eq_true ⟨hm, ho⟩
            clear hm ho
            go_wp2_with fail
            go_meet
            exact ⟨by rw [HD.out], rfl⟩
          · have ho2 : (p.o.toList == x.o.toList) = false := by rw [beq_eq_false_iff_ne]; exact fun e => ho (toL_inj e)
            have HD : Hid (decide (p.m = x.m ∧ p.o = x.o) = false) := decide_eq_false fun h => ho h.2
            clear hm ho
            go_wp2_with fail
            go_meet
            exact ⟨by rw [HD.out], rfl⟩
        · have hm2 : (p.m == x.m) = false := by simpa using hm
          have HD : Hid (decide (p.m = x.m ∧ p.o = x.o) = false) := decide_eq_false fun h => hm h.1
          clear hm
          go_wp2_with fail
          go_meet
          exact ⟨by rw [HD.out], rfl⟩
      case rest =>
        obtain ⟨rfl, rfl⟩ := hcut
        by_cases hsm : p.m = x.m ∧ p.o = x.o
        · rw [decide_eq_true hsm]
          have HSM := Lib.hid hsm
          obtain ⟨mn, hmn⟩ : ∃ z, min x.c p.c = z := ⟨_, rfl⟩
          have HMN : Hid (mn = if x.c < p.c then x.c else p.c) := by show mn = _; rw [← hmn]; split <;> omega
          have hne1 : ¬ gp = gr := by omega
          have hne2 : ¬ gL = gr := fun e => hgr3 e.symm
          have hne3 : ¬ g5 = gr := by omega
          have hne4 : ¬ g8 = gr := by omega
          clear hsm
          go_wp2_with fail
          refine ordV_start (fun _ => True) (ButB gr X1) [15] [(0, none), (1, none), (2, none), (3, none), (4, none), (5, none), (6, none), (7, none), (8, none), (9, none), (10, none), (11, none), (12, none), (13, none), (14, none), (15, some true)] (by kernel_rfl) (by kernel_rfl) (by kernel_rfl) (fun _ _ _ _ _ h => h) (ButB.of_below (Below.refl _ _).drew) ?_
          have HD : Below X1.heap.size X1 X1.drew := (Below.refl _ _).drew
          obtain ⟨Wd, hWd⟩ : ∃ Wd, X1.drew = Wd := ⟨_, rfl⟩
          rw [hWd] at HD ⊢
          clear hWd
          refine ordV_takeR (v := ?_) rfl rfl ?_ ?_; rotate_left 1; (focus (intro W hW; have hcW := hW.cell; (go_simp <;> with_reducible rfl))); (try simp only [Act.put, List.setIfInBounds_toArray, List.set_cons_zero, List.set_cons_succ])
          refine ordV_takeR (v := ?_) rfl rfl ?_ ?_; rotate_left 1; (focus (intro W hW; have hcW := hW.cell; (go_simp <;> with_reducible rfl))); (try simp only [Act.put, List.setIfInBounds_toArray, List.set_cons_zero, List.set_cons_succ])
          refine ordV_takeR (v := ?_) rfl rfl ?_ ?_; rotate_left 1; (focus (intro W hW; have hcW := hW.cell; (go_simp <;> with_reducible rfl))); (try simp only [Act.put, List.setIfInBounds_toArray, List.set_cons_zero, List.set_cons_succ])
          refine ordV_takeR (v := ?_) rfl rfl ?_ ?_; rotate_left 1; (focus (intro W hW; have hcW := hW.cell; (go_simp <;> with_reducible rfl))); (try simp only [Act.put, List.setIfInBounds_toArray, List.set_cons_zero, List.set_cons_succ])
          refine ordV_takeR (v := ?_) rfl rfl ?_ ?_; rotate_left 1; (focus (intro W hW; have hcW := hW.cell; (go_simp <;> with_reducible rfl))); (try simp only [Act.put, List.setIfInBounds_toArray, List.set_cons_zero, List.set_cons_succ])
          refine ordV_takeR (v := ?_) rfl rfl ?_ ?_; rotate_left 1; (focus (intro W hW; have hcW := hW.cell; (go_simp <;> with_reducible rfl))); (try simp only [Act.put, List.setIfInBounds_toArray, List.set_cons_zero, List.set_cons_succ])
          refine ordV_takeR (v := ?_) rfl rfl ?_ ?_; rotate_left 1; (focus (intro W hW; have hcW := hW.cell; (go_simp <;> with_reducible rfl))); (try simp only [Act.put, List.setIfInBounds_toArray, List.set_cons_zero, List.set_cons_succ])
          refine ordV_takeR (v := ?_) rfl rfl ?_ ?_; rotate_left 1; (focus (intro W hW; have hcW := hW.cell; (go_simp <;> with_reducible rfl))); (try simp only [Act.put, List.setIfInBounds_toArray, List.set_cons_zero, List.set_cons_succ])
          refine ordV_takeR (v := ?_) rfl rfl ?_ ?_; rotate_left 1; (focus (intro W hW; have hcW := hW.cell; (go_simp <;> with_reducible rfl))); (try simp only [Act.put, List.setIfInBounds_toArray, List.set_cons_zero, List.set_cons_succ])
          refine ordV_takeR (v := ?_) rfl rfl ?_ ?_; rotate_left 1; (focus (intro W hW; have hcW := hW.cell; (go_simp <;> with_reducible rfl))); (try simp only [Act.put, List.setIfInBounds_toArray, List.set_cons_zero, List.set_cons_succ])
          refine ordV_takeR (v := ?_) rfl rfl ?_ ?_; rotate_left 1; (focus (intro W hW; have hcW := hW.cell; (go_simp <;> with_reducible rfl))); (try simp only [Act.put, List.setIfInBounds_toArray, List.set_cons_zero, List.set_cons_succ])
          refine ordV_takeR (v := ?_) rfl rfl ?_ ?_; rotate_left 1; (focus (intro W hW; have hcW := hW.cell; (go_simp <;> with_reducible rfl))); (try simp only [Act.put, List.setIfInBounds_toArray, List.set_cons_zero, List.set_cons_succ])
          refine ordV_takeR (v := ?_) rfl rfl ?_ ?_; rotate_left 1; (focus (intro W hW; have hcW := hW.cell; (go_simp <;> with_reducible rfl))); (try simp only [Act.put, List.setIfInBounds_toArray, List.set_cons_zero, List.set_cons_succ])
          refine ordV_takeR (v := ?_) rfl rfl ?_ ?_; rotate_left 1; (focus (intro W hW; have hcW := hW.cell; (go_simp <;> with_reducible rfl))); (try simp only [Act.put, List.setIfInBounds_toArray, List.set_cons_zero, List.set_cons_succ])
          refine ordV_takeR (v := ?_) rfl rfl ?_ ?_; rotate_left 1; (focus (intro W hW; have hcW := hW.cell; (go_simp <;> with_reducible rfl))); (try simp only [Act.put, List.setIfInBounds_toArray, List.set_cons_zero, List.set_cons_succ])
          have hcl := (HP1.out.below HD).slr hi
          have hc2 := (SlR.pq hcl.1 hA HK'.out).2.2
          have hcf := ((HP1.out.below HD).own i r hi)
          rw [show r.val = .slice (some ⟨gr, 0, none⟩) r.ps.length r.c by unfold PRow.val; rw [hA]] at hcf
          have hff := hcf.frozenAt (k * 3 + 2)
          have hgl := Nat.lt_of_lt_of_le hgX HD.size
          refine ordV_call rfl rfl (fun K hK => ?_)
          go_simp
          refine hK.out _ _ ((ButB.of_below HD).set_ (k * 3 + 2) _) (fun _ _ => trivial) ?_
          clear hK K
          try simp only [Act.put, List.setIfInBounds_toArray, List.set_cons_zero, List.set_cons_succ]
          refine ordV_nil ?_
          have HPE := Lib.hid ((HP1.out.below HD).cost hi HK'.out hA mn)
          have HBE : Hid (Below gp w (Wd.setCell ⟨gr, k * 3 + 2, none⟩ (.int .i64 mn))) := (HBX.out.trans (HD.mono (by omega))).setCell (p := ⟨gr, k * 3 + 2, none⟩) (by show gp ≤ gr; omega) _
          have hx5 := (HX5.out.below (HBX1.out.trans (HD.mono HBX1.out.size)) HX5.out.lt).far (p := ⟨gr, k * 3 + 2, none⟩) (by show ¬ g5 = gr; omega) (.int .i64 mn)
          have hx8 := (HX8.out.below HD HX8.out.lt).far (p := ⟨gr, k * 3 + 2, none⟩) (by show ¬ g8 = gr; omega) (.int .i64 mn)
          obtain ⟨XE, hXE⟩ : ∃ W, Wd.setCell ⟨gr, k * 3 + 2, none⟩ (.int .i64 mn) = W := ⟨_, rfl⟩
          rw [hXE] at HPE HBE hx5 hx8 ⊢
          clear hXE
          have a2 := hx5.cell 2
          have al := hx5.lt
          have b2 := hx8.cell 2
          have bl := hx8.lt
          simp at a2 b2
          go_wp2_with fail
          go_ret
          exact ⟨_, big, decide (x.c < p.c), by first | rfl | simp, HPE.out, .inl ⟨k, p, HK'.out, HSM.out.1, HSM.out.2, rfl, rfl, r.A, r.c, by rw [← HMN.out]⟩, HBE.out⟩
        · rw [decide_eq_false hsm]
          have HSM := Lib.hid hsm
          clear hsm
          go_wp2_with fail
          go_roundw
          case rel => exact ⟨k + 1, by omega, by go_num, take_all HNO.out HK'.out HSM.out, HBX1.out⟩
          case measure => simp [intOf]; omega
    · obtain rfl : k = r.ps.length := by omega
      have hki : ¬ ((r.ps.length : Nat) : Int) < (r.ps.length : Int) := by omega
      have HNO : Hid (∀ p ∈ r.ps, ¬ (p.m = x.m ∧ p.o = x.o)) := by have := HNO.out; rw [List.take_length] at this; exact this
      by_cases hfull : 150 ≤ r.ps.length
      · have hfi : (150 : Int) ≤ (r.ps.length : Int) := by omega
        have hp5 := HPR.out.hp.cell 5
        have hpf := HPR.out.hp.frozen 5
        have HPE := Lib.hid HPR.out.big_
        have HBE : Hid (Below gp w (wr.setCell ⟨gp, 5, none⟩ (.bool true))) := HBW.out.setCell (p := ⟨gp, 5, none⟩) (Nat.le_refl _) _
        simp at hp5
        go_wp2_with fail
        go_ret
        exact ⟨rows, true, false, rfl, HPE.out, .inr (.inl ⟨HNO.out, hfull, rfl, rfl, rfl⟩), HBE.out⟩
      · have hfi : ¬ (150 : Int) ≤ (r.ps.length : Int) := by omega
        have hvb : ∀ q, r.val.ownBlock = some q → q < g5 ∧ gp < q ∧ q ≠ gL := fun q hq => ⟨(HLT.out q hq).1, (HLT.out q hq).2, fun e => own_ne (HPR.out.own i r hi) HPR.out.hL (by decide) q hq (by rw [e]; rfl)⟩
        have hv1 : r.val.ownBlock ≠ some gp := fun e => by have := hvb _ e; omega
        have hv2 : r.val.ownBlock ≠ some gL := fun e => (hvb _ e).2.2 rfl
        have hv3 : r.val.ownBlock ≠ some g5 := fun e => by have := hvb _ e; omega
        clear hvb
        go_wp2_with fail
        refine ordV_start (ButR r.val wr) (fun _ => True) [16] [(0, some false), (1, some false), (2, some false), (3, some false), (4, some false), (5, some false), (6, some false), (7, some false), (8, some false), (9, some false), (10, some false), (11, some false), (12, some false), (13, some true), (14, some true), (15, some false), (16, some true)] (by kernel_rfl) (by kernel_rfl) (by kernel_rfl) (fun _ _ _ _ _ h => h) trivial ?_
        have HD : Below wr.heap.size wr wr.drew := (Below.refl _ _).drew
        obtain ⟨Wd, hWd⟩ : ∃ Wd, wr.drew = Wd := ⟨_, rfl⟩
        rw [hWd] at HD ⊢
        clear hWd
        have HS0 := ButR.of_below (v := r.val) HD
        refine ordV_takeS (v := ?_) rfl rfl HS0 ?_ ?_; rotate_left 1; (focus (intro W hW; have hcW := hW.cell; (go_simp <;> with_reducible rfl))); (try simp only [Act.put, List.setIfInBounds_toArray, List.set_cons_zero, List.set_cons_succ])
        refine ordV_takeS (v := ?_) rfl rfl HS0 ?_ ?_; rotate_left 1; (focus (intro W hW; have hcW := hW.cell; (go_simp <;> with_reducible rfl))); (try simp only [Act.put, List.setIfInBounds_toArray, List.set_cons_zero, List.set_cons_succ])
        refine ordV_takeS (v := ?_) rfl rfl HS0 ?_ ?_; rotate_left 1; (focus (intro W hW; have hcW := hW.cell; (go_simp <;> with_reducible rfl))); (try simp only [Act.put, List.setIfInBounds_toArray, List.set_cons_zero, List.set_cons_succ])
        refine ordV_takeS (v := ?_) rfl rfl HS0 ?_ ?_; rotate_left 1; (focus (intro W hW; have hcW := hW.cell; (go_simp <;> with_reducible rfl))); (try simp only [Act.put, List.setIfInBounds_toArray, List.set_cons_zero, List.set_cons_succ])
        refine ordV_takeS (v := ?_) rfl rfl HS0 ?_ ?_; rotate_left 1; (focus (intro W hW; have hcW := hW.cell; (go_simp <;> with_reducible rfl))); (try simp only [Act.put, List.setIfInBounds_toArray, List.set_cons_zero, List.set_cons_succ])
        refine ordV_takeS (v := ?_) rfl rfl HS0 ?_ ?_; rotate_left 1; (focus (intro W hW; have hcW := hW.cell; (go_simp <;> with_reducible rfl))); (try simp only [Act.put, List.setIfInBounds_toArray, List.set_cons_zero, List.set_cons_succ])
        refine ordV_takeS (v := ?_) rfl rfl HS0 ?_ ?_; rotate_left 1; (focus (intro W hW; have hcW := hW.cell; (go_simp <;> with_reducible rfl))); (try simp only [Act.put, List.setIfInBounds_toArray, List.set_cons_zero, List.set_cons_succ])
        refine ordV_takeS (v := ?_) rfl rfl HS0 ?_ ?_; rotate_left 1; (focus (intro W hW; have hcW := hW.cell; (go_simp <;> with_reducible rfl))); (try simp only [Act.put, List.setIfInBounds_toArray, List.set_cons_zero, List.set_cons_succ])
        refine ordV_takeS (v := ?_) rfl rfl HS0 ?_ ?_; rotate_left 1; (focus (intro W hW; have hcW := hW.cell; (go_simp <;> with_reducible rfl))); (try simp only [Act.put, List.setIfInBounds_toArray, List.set_cons_zero, List.set_cons_succ])
        refine ordV_takeS (v := ?_) rfl rfl HS0 ?_ ?_; rotate_left 1; (focus (intro W hW; have hcW := hW.cell; (go_simp <;> with_reducible rfl))); (try simp only [Act.put, List.setIfInBounds_toArray, List.set_cons_zero, List.set_cons_succ])
        refine ordV_takeS (v := ?_) rfl rfl HS0 ?_ ?_; rotate_left 1; (focus (intro W hW; have hcW := hW.cell; (go_simp <;> with_reducible rfl))); (try simp only [Act.put, List.setIfInBounds_toArray, List.set_cons_zero, List.set_cons_succ])
        refine ordV_takeS (v := ?_) rfl rfl HS0 ?_ ?_; rotate_left 1; (focus (intro W hW; have hcW := hW.cell; (go_simp <;> with_reducible rfl))); (try simp only [Act.put, List.setIfInBounds_toArray, List.set_cons_zero, List.set_cons_succ])
        refine ordV_takeS (v := ?_) rfl rfl HS0 ?_ ?_; rotate_left 1; (focus (intro W hW; have hcW := hW.cell; (go_simp <;> with_reducible rfl))); (try simp only [Act.put, List.setIfInBounds_toArray, List.set_cons_zero, List.set_cons_succ])
        refine ordV_call rfl rfl (fun K hK => ?_)
        go_simp
        have HD2 := HD.alloc HD.size (.cells #[.int .i64 x.m, .string x.o, .int .i64 x.c] 94)
        have HS2 := ButR.of_below (v := r.val) HD2
        refine hK.out _ _ trivial (fun _ _ => HS2) ?_
        clear hK K
        try simp only [Act.put, List.setIfInBounds_toArray, List.set_cons_zero, List.set_cons_succ]
        refine ordV_call rfl rfl (fun K hK => ?_)
        refine wp_appS (enc := encPq) (R := RPq) _ _ 91 rfl (gp + 1) 94 i0 _ 3 32 Tryz.underlying91 hinf hz0 hz1 hz2 rfl (by decide) r.val _ _ rfl ((HPR.out.below HD2).own i r hi) (some ⟨Wd.heap.size, 0, none⟩) 1 [x] rfl (slr_blkR (enc := encPq) (Blk.new_ rfl) (fun _ => rfl) (fun _ => rfl)) (fun _ _ _ h => h) (fun _ => rfl) (fun u hu => by simp [encPq] at hu; rcases hu with rfl | rfl | rfl <;> rfl) (by simp; omega) (by decide) (by have := HD2.size; have := HPR.out.gl; omega) ?_
        intro v4 w4 hown4 hb4 ha4
        obtain ⟨A4, c4, rfl⟩ := own_form hown4
        have HS3 := HS2.apps hb4.size ha4
        refine hK.out _ _ trivial (fun _ _ => HS3) ?_
        clear hK K
        try simp only [Act.put, List.setIfInBounds_toArray, List.set_cons_zero, List.set_cons_succ]
        refine ordV_takeS (v := ?_) rfl rfl HS3 ?_ ?_; rotate_left 1; (focus (intro W hW; have hcW := hW.cell; (go_simp <;> with_reducible rfl))); (try simp only [Act.put, List.setIfInBounds_toArray, List.set_cons_zero, List.set_cons_succ])
        have hown5 : w4.ownsRow (gp + 1) 94 3 (.slice A4 (r.ps.length + 1) c4) (r.ps.length + 1) ((r.ps ++ [x]).flatMap encPq) := by rw [List.flatMap_append]; simpa using hown4
        have hPA := (HPR.out.below HD2).app hi hown5 ha4
        have hrow := own_apps (HPR.out.below HD2).hL ((HPR.out.below HD2).own i r hi) (by decide) ha4
        have hci := hrow.cellAt i (by omega)
        have hfi := hrow.frozenAt i
        have hli := (hrow.lt gL rfl).2
        rw [List.getElem?_map, hi] at hci
        have hci : w4.cell? ⟨gL, i, none⟩ = some r.val := hci
        refine ordV_call rfl rfl (fun K hK => ?_)
        go_simp
        refine hK.out _ _ trivial (fun _ h => by cases h) ?_
        clear hK K
        try simp only [Act.put, List.setIfInBounds_toArray, List.set_cons_zero, List.set_cons_succ]
        refine ordV_nil ?_
        have hbE : Below gp w (w4.setCell ⟨gL, i, none⟩ (.slice A4 (r.ps.length + 1) c4)) := ((HBW.out.trans (HD2.mono (by have := HPR.out.gl; omega))).trans (hb4.mono (by omega))).setCell (p := ⟨gL, i, none⟩) (by show gp ≤ gL; have := HPR.out.gl; omega) _
        have HPA := Lib.hid hPA
        have HBE := Lib.hid hbE
        go_wp2_with fail
        go_ret
        exact ⟨_, big, true, rfl, HPA.out, .inr (.inr ⟨HNO.out, by omega, rfl, rfl, A4, c4, rfl⟩), HBE.out⟩
end Go.Proofs.YtkjfdjcagfkdhaaGreat
