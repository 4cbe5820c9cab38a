/-
  The law ProofRejects: for all inputs it returns true.
-/
import Derived.Test.YtbikjmafddndpaaGrWalkN
import Derived.Test.YtbikjmafddndpaaGrWalkS
import Derived.Test.YtbikjmafddndpaaGrWalkT
import Derived.Test.YtbikjmafddndpaaGrFirst
import Derived.Test.YtbikjmafddndpaaGrWalkD
import Derived.Deep.DeepCutAuto
namespace Go.Proofs.Ytbikjmafddndpaa
open Go Go.RowKit

/-- A page whose row is the call's own. -/
structure PgO (base : Nat) (w : World) (A : Option Addr) (c : Nat) (ms : List MC) : Prop where
  own : w.ownsRow base 43 2 (.slice A ms.length c) ms.length (ms.flatMap encMc)
  ok : MsOK w ms
theorem PgO.below {base : Nat} {w w' : World} {A : Option Addr} {c : Nat} {ms : List MC} (h : PgO base w A c ms) (hb : Below w.heap.size w w') : PgO base w' A c ms := ⟨own_below h.own hb, h.ok.below hb⟩
theorem PgO.set_ {base : Nat} {w : World} {A : Option Addr} {c : Nat} {ms : List MC} {p : Addr} {cs : Array Value} (h : PgO base w A c ms) (hp : Blk w p.block 69 cs) (u : Value) : PgO base (w.setCell p u) A c ms :=
  ⟨own_set h.own (own_blk_ne h.own hp (by decide)) u, h.ok.set_ hp (by decide) u⟩
theorem PgO.store2 {base : Nat} {w : World} {A : Option Addr} {c : Nat} {ms : List MC} {g : Nat} {u0 u1 : Value} (h : PgO base w A c ms) (hp : Blk w g 69 #[u0, u1]) (a b : Value) : PgO base ((w.setCell ⟨g, 0, none⟩ a).setCell ⟨g, 1, none⟩ b) A c ms :=
  (h.set_ (p := ⟨g, 0, none⟩) hp a).set_ (p := ⟨g, 1, none⟩) (hp.set_ 0 a) b
theorem PgO.can {base : Nat} {w : World} {A : Option Addr} {c : Nat} {ms : List MC} (h : PgO base w A c ms) : SlR 2 RCan w A (ms.map (·.x)) ∧ ms.length ≤ c ∧ c ≤ maxLen := by
  obtain ⟨A8, c8, he8, hn8, hm8, hs8⟩ := own_slr (R := RMc) h.own (fun _ => rfl) (fun _ => rfl) rfl
  injection he8 with h1 h2 h3
  subst h1 h3
  exact ⟨mc_can hs8 h.ok, hn8, hm8⟩
theorem allC_links {g : Gr} (hg : GrOK g) {N : Nat} (hN : g.n = (N : Int)) (h14 : g.ls.length ≤ 14) : ∀ y ∈ allC g, y.links.length ≤ N := fun y hy => by
  have hn := hg.n
  obtain ⟨_, h2⟩ := ordered_spec (l := waysM g 2000 g.n.toNat 0) (by rw [waysM_eq hg h14 (by decide)]; exact waysF_nodup g g.n.toNat 0)
  have := (waysM_bd hg 2000 g.n.toNat 0 y ((h2 y).1 hy)).1
  omega
set_option maxRecDepth 100000 in
set_option maxHeartbeats 16000000 in
theorem proofRejects_any (A : Option Addr) (l : List T3) (c : Nat) (x a pa pb pc pd pe pf pg ph : Int) (w : World) (hs : SlR 3 RT3 w A l) (hl : l.length ≤ maxLen) (hok : ∀ p ∈ l, T3OK p) (hx : 0 ≤ x ∧ x ≤ 255) (ha : 0 ≤ a ∧ a ≤ 255)
    (hpa : 0 ≤ pa ∧ pa ≤ 255) (hpb : 0 ≤ pb ∧ pb ≤ 255) (hpc : 0 ≤ pc ∧ pc ≤ 255) (hpd : -128 ≤ pd ∧ pd ≤ 127) (hpe : 0 ≤ pe ∧ pe ≤ 255) (hpf : 0 ≤ pf ∧ pf ≤ 255) (hpg : 0 ≤ pg ∧ pg ≤ 255) (hph : -128 ≤ ph ∧ ph ≤ 127) :
    Calls Try.prog 11 #[.agg #[.int .u8 x, .slice A l.length c], .int .u8 a, .agg #[.int .u8 pa, .int .u8 pb, .int .u8 pc, .int .i8 pd, .int .u8 pe, .int .u8 pf, .int .u8 pg, .int .i8 ph]] w fun e w' => e = .returned (.bool true) ∧ Below w.heap.size w w' := by
  obtain ⟨w1, hw1⟩ : ∃ w1, ((w.alloc (.cells #[.int .u8 x, .slice A l.length c] 24)).alloc (.cells #[.int .u8 pa, .int .u8 pb, .int .u8 pc, .int .i8 pd, .int .u8 pe, .int .u8 pf, .int .u8 pg, .int .i8 ph] 65)) = w1 := ⟨_, rfl⟩
  have hb1 : Below w.heap.size w w1 := by rw [← hw1]; exact nw _ (nw _ (Below.refl _ _))
  have hX0 : Blk w1 (w.heap.size) 24 #[.int .u8 x, .slice A l.length c] := by rw [← hw1]; exact (Blk.new _ _ _).alloc _
  have hX1 : Blk w1 (w.heap.size + 1) 65 #[.int .u8 pa, .int .u8 pb, .int .u8 pc, .int .i8 pd, .int .u8 pe, .int .u8 pf, .int .u8 pg, .int .i8 ph] := by rw [← hw1]; exact Blk.new_ (by simp)
  have HW1 := Lib.hid hw1
  have HMD : Hid (∀ W, Below w.heap.size w W → Calls Try.prog 15 #[.agg #[.int .u8 x, .slice A l.length c]] W fun e w' => ∃ A' c', e = .returned (.agg #[.int .i64 (madeG x l).n, .slice A' (madeG x l).ls.length c']) ∧ (madeG x l).ls.length ≤ c' ∧ c' ≤ maxLen ∧ SlR 4 RLk w' A' (madeG x l).ls ∧ Below W.heap.size W w') :=
    fun W hW => made_any A l c x W (hs.below keeps_t3 hW) hl hx hok
  have hg : GrOK (madeG x l) := madeG_ok hok
  have h14 : (madeG x l).ls.length ≤ 14 := madeG_len x l
  have hn7 : 1 ≤ (madeG x l).n ∧ (madeG x l).n ≤ 7 := madeG_n x l
  generalize madeG x l = g at *
  obtain ⟨N, hN⟩ : ∃ N : Nat, g.n = (N : Int) := ⟨g.n.toNat, by omega⟩
  rw [hN] at HMD
  have HN := Lib.hid hN
  have HG := Lib.hid hg
  have hN1 : 1 ≤ N := by omega
  have hN7 : N ≤ 7 := by omega
  have hlt1 := hX0.lt
  clear hw1 hs hok hN hg hn7
  have hbx0 := hX0.cell 0
  have hbx1 := hX0.cell 1
  simp at hbx0 hbx1
  go_enter Try.func11, Try.ntmps11
  go_upto_region 1 with fail
  rw [HW1.out]
  go_upto_region 2 with (go_at_call 30; go_loud (refine (sanity_any _).mono ?_; rintro e w2 ⟨rfl, hb2⟩))
  have hX0 := hX0.below hb2 hX0.lt
  have hX1 := hX1.below hb2 hX1.lt
  have hbx0 := hX0.cell 0
  have hbx1 := hX0.cell 1
  simp at hbx0 hbx1
  have hbw2 := bthen hb1 hb2
  go_upto_region 3 with (go_at_call 15; go_loud (refine (HMD.out _ hbw2).mono ?_; rintro e w3 ⟨A3, c3, rfl, hc3, hcm3, hs3, hb3⟩))
  obtain ⟨W, hW⟩ : ∃ W, w3.alloc (.cells #[.int .i64 (N : Int), .slice A3 g.ls.length c3] 30) = W := ⟨_, rfl⟩
  have hb4 : Below w3.heap.size w3 W := by rw [← hW]; exact nw _ (Below.refl _ _)
  have hGB : Blk W w3.heap.size 30 #[.int .i64 (N : Int), .slice A3 g.ls.length c3] := by rw [← hW]; exact Blk.new _ _ _
  rw [hW]
  obtain ⟨bG, hbG⟩ : ∃ b, w3.heap.size = b := ⟨_, rfl⟩
  have hb34 := bthen hb3 hb4
  have hX0 := hX0.below hb34 hX0.lt
  have hX1 := hX1.below hb34 hX1.lt
  have hbw := bthen hbw2 hb34
  have hls := hs3.below keeps_lk hb4
  have hwG : w.heap.size ≤ bG := by have := hbw2.size; have := hb3.size; omega
  rw [hbG] at hGB ⊢
  have hlm : g.ls.length ≤ maxLen := by unfold maxLen; omega
  clear hbx0 hbx1 hW hbG hb4 hb34 hbw2 hb2 hb3 hs3 hb1 HMD HW1

  have hpl : (potL g).length = N := by have := potL_len HG.out; have := HN.out; omega
  have hgn : g.n = (N : Int) := HN.out
  have HPO : Hid (∀ W', Below W.heap.size W W' → Calls Try.prog 31 #[(.agg #[.int .i64 (N : Int), .slice A3 g.ls.length c3])] W' fun e w' => ∃ A' c', e = .returned (.tuple #[.slice A' N c', .int .i64 0]) ∧ SlR 1 RInt w' A' (potL g) ∧ Below W'.heap.size W' w' ∧ N ≤ c' ∧ c' ≤ maxLen) := fun W' hW' => by
    have h := refpot_any A3 c3 g W' (hls.below keeps_lk hW') hlm
    rw [show potsOf g = (potL g, 0) by unfold potsOf; rw [grB_iff.2 HG.out]; rfl, hgn] at h
    dsimp only at h
    rw [hpl] at h
    exact h
  obtain ⟨q, hq⟩ : ∃ q : Nat, a % 13 = (q : Int) := ⟨(a % 13).toNat, by omega⟩
  have hq13 : q < 13 := by omega
  have htq : a.tmod 13 = (q : Int) := by rw [Int.tmod_eq_emod_of_nonneg ha.1]; exact hq
  have hwq : IntKind.i64.wrap (q : Int) = (q : Int) := IntWalk.i64_in _ (by omega)
  obtain ⟨L, hL⟩ : ∃ L, (allC g).take (min q (allC g).length) = L := ⟨_, rfl⟩
  have hL12 : L.length ≤ 12 := by rw [← hL, List.length_take]; omega
  have hLk : ∀ y ∈ L, y.links.length ≤ 7 := fun y hy => by rw [← hL] at hy; have := allC_links HG.out HN.out h14 y (List.mem_of_mem_take hy); omega
  obtain ⟨wh, hwh⟩ : ∃ b, decide (min q (allC g).length = (allC g).length) = b := ⟨_, rfl⟩
  have HFI : Hid (∀ W', Below W.heap.size W W' → Calls Try.prog 33 #[(.agg #[.int .i64 (N : Int), .slice A3 g.ls.length c3]), .int .i64 (q : Int)] W' fun e w' => ∃ A c, e = .returned (.agg #[.slice A L.length c, .bool wh]) ∧ SlR 2 RCan w' A L ∧ Below W'.heap.size W' w') := fun W' hW' => by
    have h := first_any A3 c3 g N q W' (hls.below keeps_lk hW') HG.out HN.out (by omega)
    rw [hL, hwh] at h
    exact h.mono fun e w' ⟨A, c, ms, h1, h2, h3, h4, _, _, h5⟩ => ⟨A, c, h1, by have := mc_can h2 h3; rwa [h4.out] at this, h5⟩
  have HCH : Hid (∀ (W' : World) (H : Option Addr) (ch : Nat) (P : Option Addr) (M : List Can) (k cp : Nat) (b : Bool), Below W.heap.size W W' → SlR 1 RInt W' H (potL g) → SlR 2 RCan W' P M → M.length = k → k ≤ 2000 → k ≤ cp →
      Calls Try.prog 34 #[(.agg #[.int .i64 (N : Int), .slice A3 g.ls.length c3]), .slice H N ch, .agg #[.slice P k cp, .bool b]] W' fun r w' => r = .returned (.tuple #[.int .i64 (checkM g M b).1, .int .i64 (checkM g M b).2]) ∧ Below W'.heap.size W' w') :=
    fun W' H ch P M k cp b hW' h1 h3 hk h4 h5 => by
      subst hk
      have h := check_any A3 c3 g H (potL g) ch P M cp b W' (hls.below keeps_lk hW') hlm h1 (by rw [hpl]; unfold maxLen; omega) h3 (by omega) h5
      rw [hgn, hpl, checkAll_pot HG.out] at h
      exact h
  have HRC : Hid (∀ (W' : World) (H : Option Addr) (ch : Nat) (P : Option Addr) (M : List Can) (k cp : Nat) (b : Bool), Below W.heap.size W W' → SlR 1 RInt W' H (potL g) → SlR 2 RCan W' P M → M.length = k → k ≤ 2000 →
      Calls Try.prog 35 #[(.agg #[.int .i64 (N : Int), .slice A3 g.ls.length c3]), .slice H N ch, .agg #[.slice P k cp, .bool b]] W' fun r w' => r = .returned (.tuple #[.int .i64 (checkM g M b).1, .int .i64 (checkM g M b).2]) ∧ Below W'.heap.size W' w') :=
    fun W' H ch P M k cp b hW' h1 h3 hk h4 => by
      subst hk
      have h := refcheck_any A3 c3 g N H ch P M cp b W' (hls.below keeps_lk hW') hlm HG.out HN.out h1 h3 (by omega)
      rw [← check_eq HG.out (allC_is HG.out h14), hpl] at h
      exact h
  have HX8 : Hid (∀ W', Below W.heap.size W W' → W'.cell? ⟨w.heap.size + 1, 0, none⟩ = some (.int .u8 pa) ∧ W'.cell? ⟨w.heap.size + 1, 1, none⟩ = some (.int .u8 pb) ∧ W'.cell? ⟨w.heap.size + 1, 2, none⟩ = some (.int .u8 pc) ∧ W'.cell? ⟨w.heap.size + 1, 3, none⟩ = some (.int .i8 pd) ∧ W'.cell? ⟨w.heap.size + 1, 4, none⟩ = some (.int .u8 pe) ∧ W'.cell? ⟨w.heap.size + 1, 5, none⟩ = some (.int .u8 pf) ∧ W'.cell? ⟨w.heap.size + 1, 6, none⟩ = some (.int .u8 pg) ∧ W'.cell? ⟨w.heap.size + 1, 7, none⟩ = some (.int .i8 ph) ∧ w.heap.size + 1 < W'.heap.size) := fun W' hW' => by
    have h := hX1.below hW' hX1.lt
    exact ⟨by rw [h.cell]; rfl, by rw [h.cell]; rfl, by rw [h.cell]; rfl, by rw [h.cell]; rfl, by rw [h.cell]; rfl, by rw [h.cell]; rfl, by rw [h.cell]; rfl, by rw [h.cell]; rfl, h.lt⟩
  have HGC : Hid (∀ W', Below W.heap.size W W' → W'.cell? ⟨bG, 0, none⟩ = some (.int .i64 (N : Int)) ∧ W'.cell? ⟨bG, 1, none⟩ = some (.slice A3 g.ls.length c3) ∧ bG < W'.heap.size) := fun W' hW' => by
    have h := hGB.below hW' hGB.lt
    exact ⟨by rw [h.cell]; rfl, by rw [h.cell]; rfl, h.lt⟩
  have HBW := Lib.hid hbw
  clear hpl hgn hlm hq hL hwh hGB hX0 hX1 hls hbw
  obtain ⟨g0, g1, gl⟩ := HGC.out _ (Below.refl _ _)
  go_upto_region 4 with (go_at_call 31; go_loud (refine (HPO.out _ (Below.refl _ _)).mono ?_; rintro e V ⟨Ah, ch, rfl, hh5, hb5, hch, hchm⟩))
  obtain ⟨g0, g1, gl⟩ := HGC.out _ hb5
  obtain ⟨x0, x1, x2, x3, x4, x5, x6, x7, xl⟩ := HX8.out _ hb5
  have HB5 := Lib.hid hb5
  have HH5 := Lib.hid hh5
  have HFI : Hid (∀ W', Below V.heap.size V W' → Calls Try.prog 33 #[(.agg #[.int .i64 (N : Int), .slice A3 g.ls.length c3]), .int .i64 (q : Int)] W' fun e w' => ∃ A c, e = .returned (.agg #[.slice A L.length c, .bool wh]) ∧ SlR 2 RCan w' A L ∧ Below W'.heap.size W' w') := fun W' hW' => HFI.out W' (bthen HB5.out hW')
  have HS1 : Hid (∀ W' A c, Below V.heap.size V W' → SlR 2 RCan W' A L → Calls Try.prog 32 #[.agg #[.slice A L.length c, .bool wh], .agg #[.int .u8 pa, .int .u8 pb, .int .u8 pc, .int .i8 pd]] W' fun e w' => ∃ A c ms b, e = .returned (.agg #[.slice A (List.length ms) c, .bool b]) ∧ PgO V.heap.size w' A c ms ∧ ms.length ≤ 13 ∧ (∀ m ∈ ms, m.x.links.length ≤ 8) ∧ Below W'.heap.size W' w') := fun W' A c hW' h => by
    refine (spoilt_any A L c wh pa pb pc pd 7 W' h (by omega) (by omega) hLk hpa hpb hpc hpd).mono ?_
    rintro e w' ⟨A9, c9, ms, b, h1, h2, h3, h4, h5, h6⟩
    exact ⟨A9, c9, ms, b, h1, ⟨own_le h2 hW'.size, h3⟩, by omega, h5, h6⟩
  clear hLk hb5 hh5
  go_cut [11] (fun s11 W' => ∃ (bA : Nat) (As : Option Addr) (cs : Nat) (ms : List MC) (bs : Bool), s11 = .pointer (some ⟨bA, 0, none⟩) ∧ Blk W' bA 69 #[.slice As ms.length cs, .bool bs] ∧ PgO V.heap.size W' As cs ms ∧ ms.length ≤ 13 ∧ (∀ m ∈ ms, m.x.links.length ≤ 8) ∧ Below V.heap.size V W')
  case first =>
    refine ordB_below (.quiet 0 (.quiet 1 (.quiet 2 (.quiet 3 (.quiet 5 (.quiet 6 (.fork 4 8 (.fork 7 8 (.only 8 (.only 9 .done)) (.only 7 (.only 9 .done))) (.only 4 (.only 7 (.only 9 .done)))))))))) (by kernel_rfl) (by kernel_rfl) (by kernel_rfl) (fun _ _ _ _ _ h => h) ?_
    intro V0 hV0
    iterate 6 (first
      | (refine ordB_skip rfl rfl ?_; simp only [Act.put, List.setIfInBounds_toArray, List.set_cons_zero, List.set_cons_succ])
      | (refine ordB_take (v := ?_) rfl rfl ?_ ?_
         rotate_left 1
         focus (intro W hW; obtain ⟨hcW, hfW⟩ := bcell hW; (go_simp <;> with_reducible rfl))
         simp only [Act.put, List.setIfInBounds_toArray, List.set_cons_zero, List.set_cons_succ]))
    refine ordB_fork (opB_call rfl rfl (fun K hK => ?_)) (opB_call rfl rfl (fun K hK => ?_))
    · go_simp
      go_at_call 33
      refine (HFI.out V0 hV0).mono ?_
      rintro e V0_1 ⟨Ap, cp, rfl, hsp, hx4⟩
      refine hK.out _ _ (hV0.trans (hx4.mono hV0.size)) (fun hV0_1 => ?_)
      refine ordB_fork (opB_call rfl rfl (fun K hK => ?_)) (opB_call rfl rfl (fun K hK => ?_))
      · go_simp
        go_at_call 32
        refine (HS1.out V0_1 Ap cp hV0_1 (by first | exact hsp | exact hsp.below keeps_can b11b)).mono ?_
        rintro e V0_1_2 ⟨As, cs, ms, bs, rfl, hpo, hml, hmk, hx7⟩
        refine hK.out _ _ (hV0_1.trans (hx7.mono hV0_1.size)) (fun hV0_1_2 => ?_)
        refine ordB_only (opB_call rfl rfl (fun K hK => ?_))
        go_simp
        refine hK.out _ _ (hV0_1_2.alloc hV0_1_2.size _) (fun hV0_1_2_3 => ?_)
        have b11 := Blk.new V0_1_2 69 #[.slice none 0 0, .bool false]
        have b11b := nw (.cells #[.slice none 0 0, .bool false] 69) (Below.refl V0_1_2.heap.size V0_1_2)
        have b11g := hV0_1_2.size
        obtain ⟨V0_1_2_3, qqV0_1_2_3⟩ : ∃ W', V0_1_2.alloc (.cells #[.slice none 0 0, .bool false] 69) = W' := ⟨_, rfl⟩
        rw [qqV0_1_2_3] at hV0_1_2_3 b11 b11b ⊢
        have b11lt := b11.lt
        clear qqV0_1_2_3
        refine ordB_only (opB_call rfl rfl (fun K hK => ?_))
        have b11c0 := b11.cell 0
        have b11f0 := b11.frozen 0
        have b11c1 := b11.cell 1
        have b11f1 := b11.frozen 1
        simp at b11c0 b11c1
        go_simp
        refine hK.out _ _ ((hV0_1_2_3.setCell (p := ⟨V0_1_2.heap.size, 0, none⟩) b11g _).setCell (p := ⟨V0_1_2.heap.size, 1, none⟩) b11g _) (fun hV0_1_2_3_4 => ?_)
        have b11 := ((b11.set_ 0 (.slice As ms.length cs)).set_ 1 (.bool bs))
        have hpo : PgO V.heap.size ((V0_1_2_3.setCell ⟨V0_1_2.heap.size, 0, none⟩ (.slice As ms.length cs)).setCell ⟨V0_1_2.heap.size, 1, none⟩ (.bool bs)) As cs ms := by first | exact PgO.store2 hpo (by assumption) _ _ | exact PgO.store2 (hpo.below (by assumption)) (by assumption) _ _
        obtain ⟨V0_1_2_3_4, qqV0_1_2_3_4⟩ : ∃ W', ((V0_1_2_3.setCell ⟨V0_1_2.heap.size, 0, none⟩ (.slice As ms.length cs)).setCell ⟨V0_1_2.heap.size, 1, none⟩ (.bool bs)) = W' := ⟨_, rfl⟩
        rw [qqV0_1_2_3_4] at hV0_1_2_3_4 b11 hpo ⊢
        clear qqV0_1_2_3_4 b11c0 b11f0 b11c1 b11f1
        refine ordB_nil ?_
        go_wp2_with fail
        go_meet
        exact ⟨_, As, cs, ms, bs, rfl, by simpa using b11, hpo, hml, hmk, hV0_1_2_3_4⟩
      · go_simp
        refine hK.out _ _ (hV0_1.alloc hV0_1.size _) (fun hV0_1_2 => ?_)
        have b11 := Blk.new V0_1 69 #[.slice none 0 0, .bool false]
        have b11b := nw (.cells #[.slice none 0 0, .bool false] 69) (Below.refl V0_1.heap.size V0_1)
        have b11g := hV0_1.size
        obtain ⟨V0_1_2, qqV0_1_2⟩ : ∃ W', V0_1.alloc (.cells #[.slice none 0 0, .bool false] 69) = W' := ⟨_, rfl⟩
        rw [qqV0_1_2] at hV0_1_2 b11 b11b ⊢
        have b11lt := b11.lt
        clear qqV0_1_2
        refine ordB_only (opB_call rfl rfl (fun K hK => ?_))
        go_simp
        go_at_call 32
        refine (HS1.out V0_1_2 Ap cp hV0_1_2 (by first | exact hsp | exact hsp.below keeps_can b11b)).mono ?_
        rintro e V0_1_2_3 ⟨As, cs, ms, bs, rfl, hpo, hml, hmk, hx7⟩
        refine hK.out _ _ (hV0_1_2.trans (hx7.mono hV0_1_2.size)) (fun hV0_1_2_3 => ?_)
        have b11 := b11.below hx7 b11.lt
        refine ordB_only (opB_call rfl rfl (fun K hK => ?_))
        have b11c0 := b11.cell 0
        have b11f0 := b11.frozen 0
        have b11c1 := b11.cell 1
        have b11f1 := b11.frozen 1
        simp at b11c0 b11c1
        go_simp
        refine hK.out _ _ ((hV0_1_2_3.setCell (p := ⟨V0_1.heap.size, 0, none⟩) b11g _).setCell (p := ⟨V0_1.heap.size, 1, none⟩) b11g _) (fun hV0_1_2_3_4 => ?_)
        have b11 := ((b11.set_ 0 (.slice As ms.length cs)).set_ 1 (.bool bs))
        have hpo : PgO V.heap.size ((V0_1_2_3.setCell ⟨V0_1.heap.size, 0, none⟩ (.slice As ms.length cs)).setCell ⟨V0_1.heap.size, 1, none⟩ (.bool bs)) As cs ms := by first | exact PgO.store2 hpo (by assumption) _ _ | exact PgO.store2 (hpo.below (by assumption)) (by assumption) _ _
        obtain ⟨V0_1_2_3_4, qqV0_1_2_3_4⟩ : ∃ W', ((V0_1_2_3.setCell ⟨V0_1.heap.size, 0, none⟩ (.slice As ms.length cs)).setCell ⟨V0_1.heap.size, 1, none⟩ (.bool bs)) = W' := ⟨_, rfl⟩
        rw [qqV0_1_2_3_4] at hV0_1_2_3_4 b11 hpo ⊢
        clear qqV0_1_2_3_4 b11c0 b11f0 b11c1 b11f1
        refine ordB_nil ?_
        go_wp2_with fail
        go_meet
        exact ⟨_, As, cs, ms, bs, rfl, by simpa using b11, hpo, hml, hmk, hV0_1_2_3_4⟩
    · go_simp
      refine hK.out _ _ (hV0.alloc hV0.size _) (fun hV0_1 => ?_)
      have b11 := Blk.new V0 69 #[.slice none 0 0, .bool false]
      have b11b := nw (.cells #[.slice none 0 0, .bool false] 69) (Below.refl V0.heap.size V0)
      have b11g := hV0.size
      obtain ⟨V0_1, qqV0_1⟩ : ∃ W', V0.alloc (.cells #[.slice none 0 0, .bool false] 69) = W' := ⟨_, rfl⟩
      rw [qqV0_1] at hV0_1 b11 b11b ⊢
      have b11lt := b11.lt
      clear qqV0_1
      refine ordB_only (opB_call rfl rfl (fun K hK => ?_))
      go_simp
      go_at_call 33
      refine (HFI.out V0_1 hV0_1).mono ?_
      rintro e V0_1_2 ⟨Ap, cp, rfl, hsp, hx4⟩
      refine hK.out _ _ (hV0_1.trans (hx4.mono hV0_1.size)) (fun hV0_1_2 => ?_)
      have b11 := b11.below hx4 b11.lt
      refine ordB_only (opB_call rfl rfl (fun K hK => ?_))
      go_simp
      go_at_call 32
      refine (HS1.out V0_1_2 Ap cp hV0_1_2 (by first | exact hsp | exact hsp.below keeps_can b11b)).mono ?_
      rintro e V0_1_2_3 ⟨As, cs, ms, bs, rfl, hpo, hml, hmk, hx7⟩
      refine hK.out _ _ (hV0_1_2.trans (hx7.mono hV0_1_2.size)) (fun hV0_1_2_3 => ?_)
      have b11 := b11.below hx7 b11.lt
      refine ordB_only (opB_call rfl rfl (fun K hK => ?_))
      have b11c0 := b11.cell 0
      have b11f0 := b11.frozen 0
      have b11c1 := b11.cell 1
      have b11f1 := b11.frozen 1
      simp at b11c0 b11c1
      go_simp
      refine hK.out _ _ ((hV0_1_2_3.setCell (p := ⟨V0.heap.size, 0, none⟩) b11g _).setCell (p := ⟨V0.heap.size, 1, none⟩) b11g _) (fun hV0_1_2_3_4 => ?_)
      have b11 := ((b11.set_ 0 (.slice As ms.length cs)).set_ 1 (.bool bs))
      have hpo : PgO V.heap.size ((V0_1_2_3.setCell ⟨V0.heap.size, 0, none⟩ (.slice As ms.length cs)).setCell ⟨V0.heap.size, 1, none⟩ (.bool bs)) As cs ms := by first | exact PgO.store2 hpo (by assumption) _ _ | exact PgO.store2 (hpo.below (by assumption)) (by assumption) _ _
      obtain ⟨V0_1_2_3_4, qqV0_1_2_3_4⟩ : ∃ W', ((V0_1_2_3.setCell ⟨V0.heap.size, 0, none⟩ (.slice As ms.length cs)).setCell ⟨V0.heap.size, 1, none⟩ (.bool bs)) = W' := ⟨_, rfl⟩
      rw [qqV0_1_2_3_4] at hV0_1_2_3_4 b11 hpo ⊢
      clear qqV0_1_2_3_4 b11c0 b11f0 b11c1 b11f1
      refine ordB_nil ?_
      go_wp2_with fail
      go_meet
      exact ⟨_, As, cs, ms, bs, rfl, by simpa using b11, hpo, hml, hmk, hV0_1_2_3_4⟩
  case rest =>
    obtain ⟨w5, rfl⟩ : ∃ V, V = wc := ⟨wc, rfl⟩
    obtain ⟨bA, As, cs, ms, bs, rfl, hA, hpo, hml, hmk, hb6⟩ := hcut
    obtain ⟨hsA, hmc, hcm⟩ := hpo.can
    have hb6W := bthen HB5.out hb6
    obtain ⟨g0, g1, gl⟩ := HGC.out _ hb6W
    obtain ⟨x0, x1, x2, x3, x4, x5, x6, x7, xl⟩ := HX8.out _ hb6W
    have a0 := hA.cell 0
    have a1 := hA.cell 1
    have al := hA.lt
    simp at a0 a1
    have hk1 : ∀ y ∈ ms.map (·.x), y.links.length ≤ 8 := fun y hy => by obtain ⟨m, hm, rfl⟩ := List.mem_map.1 hy; exact hmk m hm
    have HS2 : Hid (Calls Try.prog 32 #[.agg #[.slice As ms.length cs, .bool bs], .agg #[.int .u8 pe, .int .u8 pf, .int .u8 pg, .int .i8 ph]] w5 fun e w' => ∃ A c ms b, e = .returned (.agg #[.slice A (List.length ms) c, .bool b]) ∧ PgO V.heap.size w' A c ms ∧ ms.length ≤ 14 ∧ Below w5.heap.size w5 w') := by
      have h := spoilt_any As (ms.map (·.x)) cs bs pe pf pg ph 8 w5 hsA (by rw [List.length_map]; omega) (by omega) hk1 hpe hpf hpg hph
      rw [List.length_map] at h
      refine h.mono ?_
      rintro e w' ⟨A9, c9, ms9, b, h1, h2, h3, h4, h5, h6⟩
      exact ⟨A9, c9, ms9, b, h1, ⟨own_le h2 hb6.size, h3⟩, by omega, h6⟩
    have HSA := Lib.hid hsA
    have HA := Lib.hid hA
    have HB6W := Lib.hid hb6W
    have HB6 := Lib.hid hb6
    clear hmk hk1 hpo hb6
    go_upto_region 6 with (go_at_call 32; go_loud (refine HS2.out.mono ?_; rintro e w6 ⟨Ab, cb, mb, bb, rfl, hpb9, hmb, hb7⟩))
    obtain ⟨w7, hw7⟩ : ∃ W, w6.alloc (.cells #[.slice Ab mb.length cb, .bool bb] 69) = W := ⟨_, rfl⟩
    have hb8 : Below w6.heap.size w6 w7 := by rw [← hw7]; exact nw _ (Below.refl _ _)
    have hBB : Blk w7 w6.heap.size 69 #[.slice Ab mb.length cb, .bool bb] := by rw [← hw7]; exact Blk.new _ _ _
    rw [hw7]
    have hb78 := bthen hb7 hb8
    obtain ⟨hsB, hmb1, hmb2⟩ := (hpb9.below hb8).can
    have HW7 := Lib.hid (bthen HB6W.out hb78)
    have hA7 := HA.out.below hb78 HA.out.lt
    obtain ⟨bB, hbB⟩ : ∃ b, w6.heap.size = b := ⟨_, rfl⟩
    rw [hbB] at hBB ⊢
    have HH7 := Lib.hid (HH5.out.below keeps_int (bthen HB6.out hb78))
    have HSA7 := Lib.hid (HSA.out.below keeps_can hb78)
    have HSB7 := Lib.hid hsB
    obtain ⟨ra, hra⟩ : ∃ r, checkM g (ms.map (·.x)) bs = r := ⟨_, rfl⟩
    obtain ⟨rb, hrb⟩ : ∃ r, checkM g (mb.map (·.x)) bb = r := ⟨_, rfl⟩
    have HK1 : Hid (∀ W', Below w7.heap.size w7 W' → Calls Try.prog 34 #[(.agg #[.int .i64 (N : Int), .slice A3 g.ls.length c3]), .slice Ah N ch, .agg #[.slice As ms.length cs, .bool bs]] W' fun r w' => r = .returned (.tuple #[.int .i64 ra.1, .int .i64 ra.2]) ∧ Below W'.heap.size W' w') := fun W' hW' => by
      have h := HCH.out W' Ah ch As (ms.map (·.x)) ms.length cs bs (bthen HW7.out hW') (HH7.out.below keeps_int hW') (HSA7.out.below keeps_can hW') (by simp) (by omega) hmc
      rw [hra] at h; exact h
    have HK2 : Hid (∀ W', Below w7.heap.size w7 W' → Calls Try.prog 35 #[(.agg #[.int .i64 (N : Int), .slice A3 g.ls.length c3]), .slice Ah N ch, .agg #[.slice As ms.length cs, .bool bs]] W' fun r w' => r = .returned (.tuple #[.int .i64 ra.1, .int .i64 ra.2]) ∧ Below W'.heap.size W' w') := fun W' hW' => by
      have h := HRC.out W' Ah ch As (ms.map (·.x)) ms.length cs bs (bthen HW7.out hW') (HH7.out.below keeps_int hW') (HSA7.out.below keeps_can hW') (by simp) (by omega)
      rw [hra] at h; exact h
    have HK3 : Hid (∀ W', Below w7.heap.size w7 W' → Calls Try.prog 34 #[(.agg #[.int .i64 (N : Int), .slice A3 g.ls.length c3]), .slice Ah N ch, .agg #[.slice Ab mb.length cb, .bool bb]] W' fun r w' => r = .returned (.tuple #[.int .i64 rb.1, .int .i64 rb.2]) ∧ Below W'.heap.size W' w') := fun W' hW' => by
      have h := HCH.out W' Ah ch Ab (mb.map (·.x)) mb.length cb bb (bthen HW7.out hW') (HH7.out.below keeps_int hW') (HSB7.out.below keeps_can hW') (by simp) (by omega) hmb1
      rw [hrb] at h; exact h
    have HK4 : Hid (∀ W', Below w7.heap.size w7 W' → Calls Try.prog 35 #[(.agg #[.int .i64 (N : Int), .slice A3 g.ls.length c3]), .slice Ah N ch, .agg #[.slice Ab mb.length cb, .bool bb]] W' fun r w' => r = .returned (.tuple #[.int .i64 rb.1, .int .i64 rb.2]) ∧ Below W'.heap.size W' w') := fun W' hW' => by
      have h := HRC.out W' Ah ch Ab (mb.map (·.x)) mb.length cb bb (bthen HW7.out hW') (HH7.out.below keeps_int hW') (HSB7.out.below keeps_can hW') (by simp) (by omega)
      rw [hrb] at h; exact h
    have HCE : Hid (∀ W, Below w7.heap.size w7 W → W.cell? ⟨bA, 0, none⟩ = some (.slice As ms.length cs) ∧ W.cell? ⟨bA, 1, none⟩ = some (.bool bs) ∧ W.cell? ⟨bB, 0, none⟩ = some (.slice Ab mb.length cb) ∧ W.cell? ⟨bB, 1, none⟩ = some (.bool bb) ∧ bA < W.heap.size ∧ bB < W.heap.size) := fun W hW => by
      have e1 := hA7.below hW hA7.lt
      have e2 := hBB.below hW hBB.lt
      exact ⟨by rw [e1.cell]; rfl, by rw [e1.cell]; rfl, by rw [e2.cell]; rfl, by rw [e2.cell]; rfl, e1.lt, e2.lt⟩
    obtain ⟨ra1, ra2⟩ := ra
    obtain ⟨rb1, rb2⟩ := rb
    simp only at HK1 HK2 HK3 HK4
    clear hw7 hsB hbB hA7 hBB hra hrb hb7 hb8 hb78 hpb9 hmb1 hmb2 hsA g0 g1 gl x0 x1 x2 x3 x4 x5 x6 x7 xl a0 a1 al hA
    have h77 := Below.refl w7.heap.size w7
    obtain ⟨a0, a1, e0, e1, al, el⟩ := HCE.out _ h77
    obtain ⟨g0, g1, gl⟩ := HGC.out _ HW7.out
    go_upto_region 7 with (go_at_call 34; go_loud (refine (HK1.out _ h77).mono ?_; rintro e w8 ⟨rfl, hc8⟩))
    clear a0 a1 e0 e1 al el g0 g1 gl
    obtain ⟨a0, a1, e0, e1, al, el⟩ := HCE.out _ hc8
    obtain ⟨g0, g1, gl⟩ := HGC.out _ (bthen HW7.out hc8)
    go_upto_region 8 with (go_at_call 35; go_loud (refine (HK2.out _ hc8).mono ?_; rintro e w9 ⟨rfl, hc9⟩))
    clear a0 a1 e0 e1 al el g0 g1 gl
    have hc79 := bthen hc8 hc9
    obtain ⟨a0, a1, e0, e1, al, el⟩ := HCE.out _ hc79
    obtain ⟨g0, g1, gl⟩ := HGC.out _ (bthen HW7.out hc79)
    go_upto_region 9 with (go_at_call 34; go_loud (refine (HK3.out _ hc79).mono ?_; rintro e w10 ⟨rfl, hc10⟩))
    clear a0 a1 e0 e1 al el g0 g1 gl
    have hc710 := bthen hc79 hc10
    obtain ⟨a0, a1, e0, e1, al, el⟩ := HCE.out _ hc710
    obtain ⟨g0, g1, gl⟩ := HGC.out _ (bthen HW7.out hc710)
    go_upto_region 10 with (go_at_call 35; go_loud (refine (HK4.out _ hc710).mono ?_; rintro e w11 ⟨rfl, hc11⟩))
    have HEND := Lib.hid (bthen HBW.out (bthen HW7.out (bthen hc710 hc11)))
    clear a0 a1 e0 e1 al el g0 g1 gl
    go_wp2_with fail
    go_ret
    exact ⟨by first | rfl | simp, HEND.out⟩
end Go.Proofs.Ytbikjmafddndpaa
