/-
  BsWalkI, BsNum, joined. No conditions.
-/
import Derived.Test.YtfjkmgjjifhdkaaGreatR17
import Derived.Test.YtfjkmgjjifhdkaaGreatR18
import Derived.ArgAppend
import Derived.Test.YtfjkmgjjifhdkaaGreatR07
import Derived.Test.YtfjkmgjjifhdkaaGreatR04
/-
  The walks of layer 15: List.
-/
namespace Go.Proofs.YtfjkmgjjifhdkaaGreat
open Go Go.RowKit

section
variable {P : Program}
/-- 'append(s, x)' where s has no room. -/
theorem wp_grow {o : Oper} {a : Act} {K : Act → World → Prop} {Q : Exit → Act → World → Prop} {w : World} (s x : Operand) (t : TypeId) (hop : o.op = Op.call { callee := Callee.builtin Builtin.append, args := #[s, x], argTypes := #[t, t] })
    (e : TypeId) (i : TypeInfo) (z : Value) (size bytes : Nat) (h1 : P.underlying t = some (.slice e)) (h2 : P.info? e = some i) (h3 : i.zero = some z) (h4 : i.size = size) (h5 : i.bytes = bytes) (h6 : z.cells.size = size) (h7 : 0 < size)
    (ao : Option Addr) (n cap : Nat) (olds : List Value) (hs : a.eval s = .slice ao n cap) (hnone : ao = none → n = 0 ∧ cap = 0) (hlo : olds.length = n * size) (holds : ∀ b, ao = some b → ∀ j u, olds[j]? = some u → w.cell? (b.add j) = some u)
    (ad : Addr) (m c : Nat) (news : List Value) (hx : a.eval x = .slice (some ad) m c) (hn : news.length = m * size) (hc : ∀ j u, news[j]? = some u → w.cell? (ad.add j) = some u) (h1c : ∀ u ∈ news, u.oneCell' = true)
    (hfull : cap < n + m) (b1 : n + m ≤ maxLen) (b2 : (n + m) * bytes ≤ 140737488355328)
    (hK : ∀ v' w', w'.ownsRow w.heap.size e size v' (n + m) (olds ++ news) → Below w.heap.size w w' → K (a.put o.dst v') w') : o.wp P a w K Q := by
  cases ao with
  | some b =>
    obtain ⟨v', w', hrun, r1, r2⟩ := run_append_arg_grows (P := P) w t o.type e i z size bytes h1 h2 h3 h4 h5 h6 h7 b n cap olds hlo (holds b rfl) ad m c news hn hc hfull b1 b2
    unfold Oper.wp
    simp [execOp, hop, resolve, invoke, builtin, hs, hx, hrun, Result.andThen]
    exact hK v' w' r1 ((Below.refl _ _).grown r2 (Nat.le_refl _) (by simp))
  | none =>
    obtain ⟨rfl, rfl⟩ := hnone rfl
    obtain rfl : olds = [] := List.eq_nil_of_length_eq_zero (by simpa using hlo)
    obtain ⟨v', w', hrun, r1, r2, _⟩ := run_append_own (P := P) w w.heap.size t o.type e i z size bytes h1 h2 h3 h4 h5 h6 h7 (.slice none 0 0) 0 [] (World.ownsRow_nil w _ e size) ad m c news hn hc h1c b1 b2 (Nat.le_refl _)
    unfold Oper.wp
    simp [execOp, hop, resolve, invoke, builtin, hs, hx, hrun, Result.andThen]
    exact hK v' w' r1 ((Below.refl _ _).grown r2 (Nat.le_refl _) (by simp [Value.ownBlock]))
end
/-- Blocks that hold no groups stay, but the heap's own. -/
def TyK (bh : Nat) (w w' : World) : Prop := ∀ b t cs, b ≠ bh → Blk w b t cs → t ≠ 100 → Blk w' b t cs
section
variable {bh B : Nat} {w w' w2 : World}
theorem TyK.trans (h : TyK bh w w') (h2 : TyK bh w' w2) : TyK bh w w2 := fun b t cs h3 h4 h5 => h2 b t cs h3 (h b t cs h3 h4 h5) h5
theorem TyK.of_below (h : Below w.heap.size w w') : TyK bh w w' := fun _ _ _ _ hb _ => hb.below h hb.lt
theorem TyK.slt {A : Option Addr} {xs : List Int} (h : TyK bh w w') (hh : ∀ t cs, Blk w bh t cs → t = 98) (hs : SlT w A xs) : SlT w' A xs := fun hn => by
  obtain ⟨b, o, cs, hA, hb, hc⟩ := hs hn
  exact ⟨b, o, cs, hA, h b _ cs (fun e => by subst e; have := hh _ _ hb; cases this) hb (by decide), hc⟩
theorem TyK.ms {ms : List MC} (h : TyK bh w w') (hh : ∀ t cs, Blk w bh t cs → t = 98) (hs : MsOK w ms) : MsOK w' ms := fun m hm => ⟨h.slt hh (hs m hm).1, (hs m hm).2⟩
theorem TyK.own {base s n : Nat} {v : Value} {xs : List Value} (h : TyK bh w w') (hh : ∀ t cs, Blk w bh t cs → t = 98) (ho : w.ownsRow base 42 s v n xs) : w'.ownsRow base 42 s v n xs := by
  obtain ⟨h1, h2⟩ := ho
  refine ⟨h1, ?_⟩
  rcases h2 with h2 | ⟨g, cap, cur, rfl, hg, hh', r⟩
  · exact .inl h2
  · exact .inr ⟨g, cap, cur, rfl, hg, h g _ cur (fun e => by subst e; have := hh _ _ hh'; cases this) hh' (by decide), r⟩
theorem TyK.setG {g : Nat} {cs : Array Value} (hb : Blk w g 100 cs) (o : Nat) (x : MG) : TyK bh w (setW4 w g o x) := fun b t cs' _ h ht => by
  have ne : b ≠ g := fun e => by subst e; exact ht (blk_typ hb h)
  exact (((h.far (p := ⟨g, o, none⟩) ne _).far (p := ⟨g, o + 1, none⟩) ne _).far (p := ⟨g, o + 2, none⟩) ne _).far (p := ⟨g, o + 3, none⟩) ne _
end
def bestErr (g : Gr) (k : Int) : Int := if grB g = false then 150 else if k < 0 ∨ 50 < k then 1 else 0
/-- What List answers. -/
def IsBest (g : Gr) (k : Int) (w : World) (e : Ending) (w' : World) : Prop := ∃ (ms : List MC) (A : Option Addr) (c : Nat), e = .returned (.tuple #[.slice A ms.length c, .int .i64 (bestErr g k)]) ∧ SlR 2 RMc w' A ms ∧ MsOK w' ms ∧ ms.length ≤ c ∧ c ≤ maxLen ∧
  (bestErr g k = 0 → IsList g k.toNat (ms.map (·.x))) ∧ (bestErr g k ≠ 0 → ms = []) ∧ Below w.heap.size w w'
/-- The same, and its row known as the call's own. -/
def IsBestT (g : Gr) (k : Int) (w : World) (e : Ending) (w' : World) : Prop := ∃ (ms : List MC) (A : Option Addr) (c : Nat), e = .returned (.tuple #[.slice A ms.length c, .int .i64 (bestErr g k)]) ∧ SlR 2 RMc w' A ms ∧ MsOK w' ms ∧ ms.length ≤ c ∧ c ≤ maxLen ∧
  (bestErr g k = 0 → IsList g k.toNat (ms.map (·.x))) ∧ (bestErr g k ≠ 0 → ms = []) ∧ Below w.heap.size w w' ∧ ∃ b, w'.ownsRow b 42 2 (.slice A ms.length c) ms.length (ms.flatMap encMc)
theorem IsBestT.best {g : Gr} {k : Int} {w : World} {e : Ending} {w' : World} : IsBestT g k w e w' → IsBest g k w e w' := fun ⟨ms, A, c, h1, h2, h3, h4, h5, h6, h7, h8, _⟩ => ⟨ms, A, c, h1, h2, h3, h4, h5, h6, h7, h8⟩
/-- The state at the head of List's loop, in memory. -/
def LSt (g : Gr) (w3 : World) (bh bn B kn : Nat) (vw vl : Value) (wr : World) : Prop := ∃ (ms : List MC) (mN : MG) (t : List Int) (Hm : List MG) (vH : Value) (Aw : Option Addr) (cw : Nat),
  vw = .slice Aw (mN.G.head ++ t).length cw ∧ wr.ownsRow B 42 2 vl ms.length (ms.flatMap encMc) ∧ MsOK wr ms ∧ Blk wr bn 100 #[(Value.slice mN.A mN.G.head.length mN.G.head.length), .int .i64 (mN.G.rank : Int), .int .i64 mN.G.link, .int .i64 mN.G.cost] ∧ HeapW bh B wr vH Hm ∧ SlT wr Aw (mN.G.head ++ t) ∧
  (mN.G.head ++ t).length ≤ cw ∧ cw ≤ maxLen ∧ SlT wr mN.A mN.G.head ∧ LInv g (ms.map (·.x)) mN.G.head t mN.G.rank mN.G.cost (Hm.map (·.G)) ∧ ms.length < kn ∧ Hm.length ≤ ms.length * 2000 ∧ mN.G.rank ≤ 20000 ∧ mN.G.head.length ≤ 2000 ∧
  Below w3.heap.size w3 wr ∧ B ≤ wr.heap.size
def sLen : Value → Nat
  | .slice _ n _ => n
  | _ => 0
theorem own_sLen {w : World} {base : Nat} {e : TypeId} {s n : Nat} {v : Value} {xs : List Value} (h : w.ownsRow base e s v n xs) : sLen v = n := by
  rcases h.2 with ⟨rfl, h0⟩ | ⟨g, cap, cur, rfl, _⟩
  · exact h0.symm
  · rfl
theorem slt_holds {w : World} {A : Option Addr} {xs : List Int} (h : SlT w A xs) : ∀ b, A = some b → ∀ j u, (xs.map (Value.int .i64))[j]? = some u → w.cell? (b.add j) = some u := fun b hb j u hj => by
  rw [List.getElem?_map] at hj
  cases hx : xs[j]? with
  | none => rw [hx] at hj; cases hj
  | some x =>
    rw [hx] at hj
    obtain rfl := Option.some.inj hj
    obtain ⟨b', o, cs, hA, hB, hc⟩ := h (by rintro rfl; simp at hx)
    rw [hA] at hb
    obtain rfl := Option.some.inj hb
    rw [add_mk, hB.cell]
    exact hc j x hx
theorem can_inf : (Tryz.prog.info? 42).map (fun i => (i.zero, i.size, i.bytes)) = some (some (.agg #[.slice none 0 0, .int .i64 0]), 2, 32) := by kernel_rfl
set_option maxRecDepth 100000 in
set_option maxHeartbeats 16000000 in
theorem list_anyT (A : Option Addr) (c : Nat) (g : Gr) (k : Int) (w : World) (hx : SlR 4 RLk w A g.ls) (hl : g.ls.length ≤ maxLen) :
    Calls Tryz.prog 10 #[.agg #[.int .i64 g.n, .slice A g.ls.length c], .int .i64 k] w (IsBestT g k w) := by
  have hl0 := hl
  unfold maxLen at hl
  obtain ⟨w1, hw1⟩ : ∃ w1, w.alloc (.cells #[.int .i64 g.n, .slice A g.ls.length c] 38) = w1 := ⟨_, rfl⟩
  have hb1 : Below w.heap.size w w1 := by rw [← hw1]; exact nw _ (Below.refl _ _)
  have hB1 : Blk w1 w.heap.size 38 #[.int .i64 g.n, .slice A g.ls.length c] := by rw [← hw1]; exact Blk.new _ _ _
  have HW1 := Lib.hid hw1
  have c0 := hB1.cell 0
  have c1 := hB1.cell 1
  have lb := hB1.lt
  simp at c0 c1
  have HV : Hid (∀ W, Below w.heap.size w W → Calls Tryz.prog 33 #[.agg #[.int .i64 g.n, .slice A g.ls.length c]] W fun e w' => e = .returned (.bool (grB g)) ∧ Below W.heap.size W w') := fun W hW => valid_any A c g W (hx.below keeps_lk hW) hl0
  clear hw1
  cases hgr : grB g with
  | false =>
    have HP : Hid (bestErr g k = 150) := by show _ = _; unfold bestErr; rw [if_pos hgr]
    rw [hgr] at HV
    clear hgr
    go_enter Tryz.func10, Tryz.ntmps10
    go_wp2_with (go_at_call 33; go_loud (rw [HW1.out]; refine (HV.out _ hb1).mono ?_; rintro e w2 ⟨rfl, hb2⟩))
    go_ret2
    exact ⟨[], none, 0, by rw [HP.out]; rfl, SlR.nil, MsOK.nil, Nat.le_refl _, Nat.zero_le _, (fun h => by rw [HP.out] at h; cases h), fun _ => rfl, bthen hb1 hb2, 0, own_nil _ _ _ _⟩
  | true =>
    have hg := grB_iff.1 hgr
    rw [hgr] at HV
    by_cases hk : k < 0 ∨ 50 < k
    · have HP : Hid (bestErr g k = 1) := by show _ = _; unfold bestErr; rw [if_neg (by rw [hgr]; simp), if_pos hk]
      clear hgr hg
      rcases (by omega : k < 0 ∨ (0 ≤ k ∧ 50 < k)) with z1 | ⟨z1, z2⟩
      all_goals
        clear hk
        go_enter Tryz.func10, Tryz.ntmps10
        go_wp2_with (go_at_call 33; go_loud (rw [HW1.out]; refine (HV.out _ hb1).mono ?_; rintro e w2 ⟨rfl, hb2⟩))
        go_ret2
        exact ⟨[], none, 0, by rw [HP.out]; rfl, SlR.nil, MsOK.nil, Nat.le_refl _, Nat.zero_le _, (fun h => by rw [HP.out] at h; cases h), fun _ => rfl, bthen hb1 hb2, 0, own_nil _ _ _ _⟩
    · have HP : Hid (bestErr g k = 0) := by show _ = _; unfold bestErr; rw [if_neg (by rw [hgr]; simp), if_neg hk]
      obtain ⟨kn, rfl⟩ : ∃ kn : Nat, k = (kn : Int) := ⟨k.toNat, by omega⟩
      have hk1 : (0 : Int) ≤ (kn : Int) := by omega
      have hk2 : (kn : Int) ≤ 50 := by omega
      obtain ⟨hn1, hn2⟩ := hg.n
      obtain ⟨N, hN⟩ : ∃ N : Nat, g.n = (N : Int) := ⟨g.n.toNat, by omega⟩
      have HG := Lib.hid hg
      have HN := Lib.hid hN
      have HNT : Hid (∀ W, Below w.heap.size w W → Calls Tryz.prog 34 #[.agg #[.int .i64 (N : Int), .slice A g.ls.length c]] W (IsTab g N A c W)) := fun W hW => newTable_any A c g N W (hx.below keeps_lk hW) hl0 hg hN
      rw [hN] at HV c0 hB1 hn1 hn2 HW1 ⊢
      clear hgr hg hN hk
      go_enter Tryz.func10, Tryz.ntmps10
      go_upto_region 3 with (go_at_call 33; go_loud (rw [HW1.out]; refine (HV.out _ hb1).mono ?_; rintro e w2 ⟨rfl, hb2⟩))
      have hB2 := hB1.below hb2 lb
      have hbw2 := bthen hb1 hb2
      have k0 := hB2.cell 0
      have k1 := hB2.cell 1
      have kl := hB2.lt
      simp at k0 k1
      clear hb2 c0 c1 hB1
      go_upto_region 6 with (go_at_call 34; go_loud (refine (HNT.out _ hbw2).mono ?_; rintro e w3 ⟨bt, gl, gf, rfl, hT, hL, hF, hb3⟩))
      have hls3 := (hx.below keeps_lk (bthen hbw2 hb3))
      have hTW : TabW g N A c bt gl gf w3 := ⟨hT, hls3, hL, hF⟩
      have hbw3 := bthen hbw2 hb3
      have hB3 := hB2.below hb3 kl
      have hp0 : (potL g)[0]? = some (hAt g 0) := potL_at HG.out (v := 0) (by omega) (by have := HN.out; omega)
      have r0 := hL.cell hp0
      have t2 := hT.cell 2
      have tl := hT.lt
      have rl := hL.lt
      simp at t2
      have HTW := Lib.hid hTW
      have hN0 : (0 : Int) < (N : Int) := by omega
      have hhb := bh_bd HG.out 0
      clear hb3 hB2 k0 k1 hp0 hT hL hF hls3 hTW hbw2
      have hcut : kn = 0 ∨ (kn ≠ 0 ∧ hAt g 0 < 0) ∨ (kn ≠ 0 ∧ 0 ≤ hAt g 0) := by omega
      rcases hcut with rfl | ⟨hkn, hneg⟩ | ⟨hkn, hpos⟩
      · go_wp2_with fail
        go_ret2
        exact ⟨[], none, 0, by rw [HP.out]; rfl, SlR.nil, MsOK.nil, Nat.le_refl _, Nat.zero_le _, (fun _ => isList_zero g), fun _ => rfl, hbw3, 0, own_nil _ _ _ _⟩
      · have HLN : Hid (IsList g kn []) := isList_none HG.out kn hneg
        have z1 : ((kn : Int) == 0) = false := by simp; exact hkn
        have hhn : hAt g 0 < 0 := hneg
        clear hkn
        generalize hAt g 0 = h0 at *
        go_wp2_with fail
        go_ret2
        exact ⟨[], none, 0, by rw [HP.out]; rfl, SlR.nil, MsOK.nil, Nat.le_refl _, Nat.zero_le _, (fun _ => by rw [Int.toNat_natCast]; exact HLN.out), fun _ => rfl, hbw3, 0, own_nil _ _ _ _⟩
      · have z1 : ((kn : Int) == 0) = false := by simp; exact hkn
        have HST := Lib.hid (linv_start HG.out hpos)
        have hlw := bw_len HG.out (N - 1) 0 (by omega) (by have := HN.out; omega) (by have := HN.out; omega) hpos
        have HFI : Hid (∀ W Bq v hd nd, Bq ≤ W.heap.size → w3.heap.size ≤ Bq → Below w3.heap.size w3 W → W.ownsRow Bq 3 1 v hd.length (hd.map (Value.int .i64)) → nd < N → 0 ≤ hAt g (nd : Int) → hd.length ≤ nd →
          Calls Tryz.prog 36 #[.pointer (some ⟨bt, 0, none⟩), v, .int .i64 (nd : Int)] W fun e w' => ∃ v', e = .returned v' ∧ w'.ownsRow Bq 3 1 v' (hd ++ bw g (nd : Int)).length ((hd ++ bw g (nd : Int)).map (Value.int .i64)) ∧ Below Bq W w') := fun W Bq v hd nd hq1 hq2 hW ho h1 h2 h3 =>
          finish_any A c N bt gl gf Bq nd g HG.out HN.out v hd W hq1 (fun W' hW' => HTW.out.below (hW.trans (hW'.mono hq2))) ho h1 h2 h3
        have hhp : 0 ≤ hAt g 0 := hpos
        have HZ0 : Hid (0 ≤ hAt g ((0 : Nat) : Int)) := hhp
        have hkpos : 0 < kn := by omega
        clear hkn hpos
        obtain ⟨h0, hh0⟩ : ∃ h, hAt g 0 = h := ⟨_, rfl⟩
        rw [hh0] at r0 hhb hhp HST
        clear hh0
        go_upto_region 10 with fail
        obtain ⟨w5, hw5⟩ : ∃ W, (w3.alloc (.cells #[.func (.func 35) #[] #[], .slice none 0 0] 98)).alloc (.cells #[.slice none 0 0, .int .i64 0, .int .i64 0, .int .i64 h0] 100) = W := ⟨_, rfl⟩
        have hb35 : Below w3.heap.size w3 w5 := by rw [← hw5]; exact nw _ (nw _ (Below.refl _ _))
        have hH5 : Blk w5 w3.heap.size 98 #[earlV, .slice none 0 0] := by rw [← hw5]; exact (Blk.new _ _ _).alloc _
        have hN5 : Blk w5 (w3.heap.size + 1) 100 #[.slice none 0 0, .int .i64 0, .int .i64 0, .int .i64 h0] := by rw [← hw5]; exact Blk.new_ (by simp)
        have hs5 : w5.heap.size = w3.heap.size + 2 := by rw [← hw5]; simp
        rw [hw5]
        have hB1 : w3.heap.size < w5.heap.size := by omega
        have hB2 : w3.heap.size + 1 < w5.heap.size := by omega
        clear hw5 hs5
        have hF0 := HFI.out w5 w5.heap.size (.slice none 0 0) [] 0 (Nat.le_refl _) (Nat.le_of_lt hB1) hb35 (own_nil _ _ _ _) (by omega) HZ0.out (by simp)
        have HF0 : Hid (Calls Tryz.prog 36 #[.pointer (some ⟨bt, 0, none⟩), .slice none 0 0, .int .i64 0] w5 fun e w' => ∃ v', e = .returned v' ∧ w'.ownsRow w5.heap.size 3 1 v' (bw g 0).length ((bw g 0).map (Value.int .i64)) ∧ Below w5.heap.size w5 w') := hF0
        clear hF0
        go_upto_region 11 with (go_at_call 36; go_loud (refine HF0.out.mono ?_; rintro e w6 ⟨v6, rfl, ho6, hb6⟩))
        obtain ⟨bh, hbh⟩ : ∃ b, w3.heap.size = b := ⟨_, rfl⟩
        obtain ⟨B, hBB⟩ : ∃ b, w5.heap.size = b := ⟨_, rfl⟩
        obtain ⟨A6, c6, rfl, hc6, hcm6, hs6⟩ := own_slt ho6 rfl
        have hLS : LSt g w3 bh (bh + 1) B kn (.slice A6 (bw g 0).length c6) (.slice none 0 0) w6 := by
          rw [← hbh, ← hBB]
          refine ⟨[], ⟨none, ⟨[], 0, 0, h0⟩⟩, bw g 0, [], .slice none 0 0, A6, c6, rfl, own_nil _ _ _ _, MsOK.nil, ?_, ⟨hH5.below hb6 hH5.lt, own_nil _ _ _ _, fun _ h => by cases h⟩, hs6, hc6, hcm6, SlT.nil, HST.out, hkpos, by simp, by simp, by simp, hb35.trans (hb6.mono (Nat.le_of_lt hB1)), hb6.size⟩
          exact hN5.below hb6 hN5.lt
        have HLS := Lib.hid hLS
        have HBH := Lib.hid hbh
        rw [hbh, hBB] at hB1
        rw [hbh, hBB] at hB2
        rw [hbh]
        clear hLS hH5 hN5 hb35 hb6 ho6 hs6 hbh hBB r0 t2 tl rl hhb hhp HST
        go_wp2_with fail
        go_loopw [9, 10] (fun vw vl wr => Hid (LSt g w3 bh (bh + 1) B kn vw vl wr)) (fun _ vl _ => kn - sLen vl)
        case atStart => exact HLS
        case round =>
          obtain ⟨ms, mN, t, Hm, vH, Aw, cw, rfl, hO, hM, hNb, hH, hSw, hlc, hcm, hSh, hI, hmk, hHl, hrk, hhd, hb3, hBr⟩ := hrel.out
          obtain ⟨i0, hi, hz0, hz1, hz2⟩ := info_parts can_inf
          have HO := Lib.hid hO
          have HI := Lib.hid hI
          have HWY := Lib.hid (hI.way HG.out)
          have HSL := Lib.hid (own_sLen hO)
          have hwb : ((mN.G.head ++ t).length : Int) < g.n ∧ _ := way_bd HG.out HWY.out.1
          have hwl : (mN.G.head ++ t).length ≤ 2000 := by have := HG.out.n; omega
          obtain ⟨Wl, hWl⟩ : ∃ W, mN.G.head ++ t = W := ⟨_, rfl⟩
          have HWL := Lib.hid hWl
          rw [hWl] at hSw hlc hwl ⊢
          have hbx : bh + 1 ≠ bh := by omega
          have n3 := hNb.cell 3
          have nl := hNb.lt
          simp at n3
          clear hwb hWl hO hI
          go_upto_region 13 with (at_builtin; go_loud (refine wpList_app1 rfl _ _ 32 rfl B 42 i0 _ 2 32 Tryz.underlying32 hi hz0 hz1 hz2 rfl (by decide) u10 _ _ rfl _ [.slice Aw Wl.length cw, .int .i64 mN.G.cost] rfl HO.out _ rfl (by simp) rfl (by simp [Value.oneCell']) (by omega) (by decide) (by omega) ?_; intro v4 w4 hown4 hb4 ha4))
          have hM4 : MsOK w4 (ms ++ [⟨Aw, cw, ⟨Wl, mN.G.cost⟩⟩]) := (hM.apps HO.out (by decide) ha4).app fun m hm => by
            rw [List.mem_singleton.1 hm]
            exact ⟨hSw.apps HO.out (by decide) ha4, hlc, hcm⟩
          have hO4 : w4.ownsRow B 42 2 v4 (ms ++ [(⟨Aw, cw, ⟨Wl, mN.G.cost⟩⟩ : MC)]).length ((ms ++ [(⟨Aw, cw, ⟨Wl, mN.G.cost⟩⟩ : MC)]).flatMap encMc) := by
            rw [List.length_append, List.flatMap_append]; exact hown4
          have hN4 := hNb.apps ha4 (own_blk_ne HO.out hNb (by decide))
          have hS4 := hSw.apps HO.out (by decide) ha4
          have hH4 : HeapW bh B w4 vH Hm := ⟨hH.h.apps ha4 (own_blk_ne HO.out hH.h (by decide)), own_apps hH.own HO.out (by decide) ha4, fun m hm => ⟨(hH.ok m hm).s.apps HO.out (by decide) ha4, (hH.ok m hm).len⟩⟩
          have hb34 := hb3.trans (hb4.mono (by have := HBH.out; omega : w3.heap.size ≤ B))
          have hB4 : B ≤ w4.heap.size := Nat.le_trans hBr hb4.size
          obtain ⟨A4, c4, rfl, hc4, hcm4, hs4⟩ := own_slr (R := RMc) hO4 (fun _ => rfl) (fun _ => rfl) rfl
          have HML : Hid ((ms ++ [(⟨Aw, cw, ⟨Wl, mN.G.cost⟩⟩ : MC)]).map (·.x) = ms.map (·.x) ++ [⟨mN.G.head ++ t, mN.G.cost⟩]) := by show _ = _; rw [List.map_append, HWL.out]; rfl
          have hml : (ms ++ [(⟨Aw, cw, ⟨Wl, mN.G.cost⟩⟩ : MC)]).length = ms.length + 1 := by simp
          obtain ⟨ms', hms'⟩ : ∃ l, ms ++ [(⟨Aw, cw, ⟨Wl, mN.G.cost⟩⟩ : MC)] = l := ⟨_, rfl⟩
          rw [hms'] at hM4 hO4 hs4 HML hml hc4 ⊢
          obtain ⟨n4, hn4⟩ : ∃ n, ms.length + 1 = n := ⟨_, rfl⟩
          have HN4 : Hid (ms'.length = n4) := by show _ = _; omega
          have HNN := Lib.hid hn4
          have hn4k : n4 ≤ kn := by omega
          have hn41 : 1 ≤ n4 := by omega
          have hn4s : ms.length < n4 := by omega
          rw [hml, hn4] at hO4 hc4 ⊢
          have HM4 := Lib.hid hM4
          have HS4 := Lib.hid hs4
          have HO4 := Lib.hid hO4
          have HBW : Hid (Below w.heap.size w w4) := bthen hbw3 hb34
          clear hml hn4 hms' hown4 hM4 hs4 hO4 hM hH hb3 hb4 ha4 hNb n3 nl hSh
          by_cases hfull : n4 = kn
          · have HF : Hid (IsList g kn (ms'.map (·.x))) := by
              show IsList _ _ _
              rw [HML.out]
              have := HI.out.full HG.out
              rw [List.length_map] at this
              rw [← hfull, ← HNN.out]
              exact this
            have z2 : ((n4 : Int) == (kn : Int)) = true := by simp [hfull]
            clear hfull
            go_wp2_with fail
            go_ret2
            exact ⟨ms', A4, c4, by rw [HP.out, HN4.out]; rfl, HS4.out, HM4.out, by rw [HN4.out]; exact hc4, hcm4, (fun _ => by rw [Int.toNat_natCast]; exact HF.out), (fun h => absurd HP.out h), HBW.out, B, by rw [HN4.out]; exact HO4.out⟩
          · have z2 : ((n4 : Int) == (kn : Int)) = false := by simp; omega
            have hlt4 : n4 < kn := by omega
            clear hfull
            have HSP : Hid (Calls Tryz.prog 37 #[.pointer (some ⟨bt, 0, none⟩), .pointer (some ⟨bh, 0, none⟩), .agg #[(Value.slice mN.A mN.G.head.length mN.G.head.length), .int .i64 (mN.G.rank : Int), .int .i64 mN.G.link, .int .i64 mN.G.cost], .slice Aw Wl.length cw] w4 (IsSplit bh B w4 Hm (pushAll (Hm.map (·.G)) (spl g mN.G.head (endP g 0 mN.G.head) (sumC g mN.G.head) mN.G.rank t)) Wl.length)) := by
              have h := split_any A c N bt gl gf w3.heap.size g HG.out HN.out bh B vH Hm w4 (by have := HBH.out; omega) (Nat.le_of_eq HBH.out) hB4 hB1 (fun W hW => HTW.out.below (hb34.trans hW)) hH4 mN t Aw cw (by rw [HWL.out]; exact hS4) (by rw [HWL.out]; exact hlc) hcm (by have := HWY.out.1; exact this) (by omega) hrk
              rw [HWL.out] at h
              exact h
            have n0 := hN4.cell 0
            have n1 := hN4.cell 1
            have n2 := hN4.cell 2
            have n3 := hN4.cell 3
            have nl := hN4.lt
            simp at n0 n1 n2 n3
            have HTY := Lib.hid hH4.typ
            go_upto_region 16 with (go_at_call 37; go_loud (refine HSP.out.mono ?_; rintro e w7 ⟨rfl, ⟨v7, H7, hH7, hm7, hl7⟩, hF7⟩))
            have hB7 : B ≤ w7.heap.size := Nat.le_trans hB4 hF7.size
            have hT7 : TyK bh w4 w7 := hF7.typ
            have hM7 := hT7.ms HTY.out HM4.out
            have hO7 := hT7.own HTY.out HO4.out
            have hN7 : Blk w7 (bh + 1) 100 #[(Value.slice mN.A mN.G.head.length mN.G.head.length), .int .i64 (mN.G.rank : Int), .int .i64 mN.G.link, .int .i64 mN.G.cost] := (hF7.low (bh + 1) hB2 hbx).trans hN4
            have hb37 := hb34.trans (hF7.below2 (by have := HBH.out; omega : w3.heap.size ≤ B) (Nat.le_of_eq HBH.out))
            have HBW7 : Hid (Below w.heap.size w w7) := bthen hbw3 hb37
            have HM7 := Lib.hid hM7
            have HO7 := Lib.hid hO7
            have HEM : Hid (Calls Tryz.prog 38 #[.pointer (some ⟨bh, 0, none⟩)] w7 fun e w' => e = .returned (.bool (decide (H7.length = 0))) ∧ w7 = w') := empty_any bh B v7 H7 w7 hH7
            clear n0 n1 n2 n3 nl hN4 hS4 hH4 hb34 hT7 hM7 hO7 HSP hF7 hB4
            by_cases hem : H7.length = 0
            · have HD : Hid (decide (H7.length = 0) = true) := decide_eq_true hem
              have HE2 : Hid (Calls Tryz.prog 38 #[.pointer (some ⟨bh, 0, none⟩)] w7 fun e w' => e = .returned (.bool true) ∧ w7 = w') := by have h := HEM.out; rw [HD.out] at h; exact h
              have hnil : H7 = [] := List.length_eq_zero_iff.1 hem
              have HF : Hid (IsList g kn (ms'.map (·.x))) := by
                show IsList _ _ _
                rw [HML.out]
                refine HI.out.done HG.out ?_ (by rw [List.length_map]; omega)
                rw [← hm7, hnil]; rfl
              have HSR : Hid (SlR 2 RMc w7 A4 ms') := by
                obtain ⟨A', c', h1, _, _, h4⟩ := own_slr (R := RMc) HO7.out (fun _ => rfl) (fun _ => rfl) HN4.out.symm
                injection h1 with h1 _ _
                show SlR _ _ _ _ _
                rw [h1]; exact h4
              clear hem hnil hm7
              go_wp2_with (go_at_call 38; go_loud (refine HE2.out.mono ?_; rintro e w8 ⟨rfl, rfl⟩))
              go_ret2
              exact ⟨ms', A4, c4, by rw [HP.out, HN4.out]; rfl, HSR.out, HM7.out, by rw [HN4.out]; exact hc4, hcm4, (fun _ => by rw [Int.toNat_natCast]; exact HF.out), (fun h => absurd HP.out h), HBW7.out, B, by rw [HN4.out]; exact HO7.out⟩
            · have HD : Hid (decide (H7.length = 0) = false) := decide_eq_false hem
              have HE2 : Hid (Calls Tryz.prog 38 #[.pointer (some ⟨bh, 0, none⟩)] w7 fun e w' => e = .returned (.bool false) ∧ w7 = w') := by have h := HEM.out; rw [HD.out] at h; exact h
              have hpos7 : 0 < H7.length := by omega
              have hl7' : H7.length ≤ 200000 := by omega
              have hPO := pop_any bh B v7 H7 w7 hB7 hB1 hH7 hpos7 (by omega)
              have HNX := HI.out.next HG.out hm7.symm (by rw [List.length_map]; exact hpos7)
              have HGM := hH7.ok _ (List.getElem_mem hpos7)
              have hg0 : H7.getD 0 default = H7[0] := by simp [hpos7]
              rw [getD_mapG] at HNX
              rw [hg0] at hPO HNX
              generalize H7[0] = mT at *
              have HNX := Lib.hid HNX
              have HPO : Hid (Calls Tryz.prog 39 #[.pointer (some ⟨bh, 0, none⟩)] w7 fun e w' => e = .returned (.agg #[(Value.slice mT.A mT.G.head.length mT.G.head.length), .int .i64 (mT.G.rank : Int), .int .i64 mT.G.link, .int .i64 mT.G.cost]) ∧ (∃ v', HeapW bh B w' v' (popM ltG H7)) ∧ HFr bh B w7 w') := hPO
              have HLP : Hid ((popM ltG H7).length + 1 = H7.length) := by
                show _ = _
                rw [popM_len]; omega
              have HTY7 := Lib.hid hH7.typ
              have HPM : Hid ((popM ltG H7).map (·.G) = popM earlierM (H7.map (·.G))) := popM_mapG H7
              have HHOK := Lib.hid hH7.ok
              clear hem hPO hm7 hg0
              go_upto_region 19 with (first | (go_at_call 38; go_loud (refine HE2.out.mono ?_; rintro e w8 ⟨rfl, rfl⟩)) | (go_at_call 39; go_loud (refine HPO.out.mono ?_; rintro e w8 ⟨rfl, ⟨v8, hH8⟩, hF8⟩; have hN8 : Blk w8 (bh + 1) 100 #[(Value.slice mN.A mN.G.head.length mN.G.head.length), .int .i64 (mN.G.rank : Int), .int .i64 mN.G.link, .int .i64 mN.G.cost] := (hF8.low (bh + 1) hB2 hbx).trans hN7; have n0 := hN8.cell 0; have n1 := hN8.cell 1; have n2 := hN8.cell 2; have n3 := hN8.cell 3; have nl := hN8.lt; have nf0 := hN8.frozen 0; have nf1 := hN8.frozen 1; have nf2 := hN8.frozen 2; have nf3 := hN8.frozen 3; simp at n0 n1 n2 n3)))
              have hK8 : TyK bh w7 w8 := hF8.typ
              have hK9 : TyK bh w8 (setW4 w8 (bh + 1) 0 mT) := TyK.setG hN8 0 mT
              have hB8 : B ≤ w8.heap.size := Nat.le_trans hB7 hF8.size
              have hs9 : (setW4 w8 (bh + 1) 0 mT).heap.size = w8.heap.size := by unfold setW4; simp
              have hN9 := hN8.set4 0 mT
              have hM9 := hK9.ms hH8.typ (hK8.ms HTY7.out HM7.out)
              have hO9 := hK9.own hH8.typ (hK8.own HTY7.out HO7.out)
              have hG9 := hK9.slt hH8.typ (hK8.slt HTY7.out HGM.s)
              have hH9 : HeapW bh B (setW4 w8 (bh + 1) 0 mT) v8 (popM ltG H7) := by
                have ne : ∀ o, v8.ownBlock ≠ some (Addr.mk (bh + 1) o none).block := fun o e => by have h1 := own_block_le hH8.own _ e; have h2 : B ≤ bh + 1 := h1; omega
                have hb : bh ≠ bh + 1 := by omega
                refine ⟨(((hH8.h.far (p := ⟨bh + 1, 0, none⟩) hb _).far (p := ⟨bh + 1, 0 + 1, none⟩) hb _).far (p := ⟨bh + 1, 0 + 2, none⟩) hb _).far (p := ⟨bh + 1, 0 + 3, none⟩) hb _, own_set (own_set (own_set (own_set hH8.own (ne 0) _) (ne (0 + 1)) _) (ne (0 + 2)) _) (ne (0 + 3)) _, fun m hm => ?_⟩
                exact ⟨hK9.slt hH8.typ (hH8.ok m hm).s, (hH8.ok m hm).len⟩
              have hb39 : Below w3.heap.size w3 (setW4 w8 (bh + 1) 0 mT) := by
                have h1 := hb37.trans (hF8.below2 (by have := HBH.out; omega : w3.heap.size ≤ B) (Nat.le_of_eq HBH.out))
                have hle : w3.heap.size ≤ (Addr.mk (bh + 1) 0 none).block := by have := HBH.out; show w3.heap.size ≤ bh + 1; omega
                exact (((h1.setCell (p := ⟨bh + 1, 0, none⟩) hle _).setCell (p := ⟨bh + 1, 0 + 1, none⟩) hle _).setCell (p := ⟨bh + 1, 0 + 2, none⟩) hle _).setCell (p := ⟨bh + 1, 0 + 3, none⟩) hle _
              obtain ⟨w9, hw9⟩ : ∃ W, setW4 w8 (bh + 1) 0 mT = W := ⟨_, rfl⟩
              have hw9' : ((((w8.setCell ⟨bh + 1, 0, none⟩ ((Value.slice mT.A mT.G.head.length mT.G.head.length))).setCell ⟨bh + 1, 1, none⟩ (.int .i64 (mT.G.rank : Int))).setCell ⟨bh + 1, 2, none⟩ (.int .i64 mT.G.link)).setCell ⟨bh + 1, 3, none⟩ (.int .i64 mT.G.cost)) = w9 := hw9
              rw [hw9] at hN9 hM9 hO9 hG9 hH9 hb39 hs9
              rw [hw9']
              have hB9 : B ≤ w9.heap.size := by omega
              have HN9 : Hid (Blk w9 (bh + 1) 100 #[(Value.slice mT.A mT.G.head.length mT.G.head.length), .int .i64 (mT.G.rank : Int), .int .i64 mT.G.link, .int .i64 mT.G.cost]) := by show Blk _ _ _ _; have := hN9; unfold Go.Proofs.YtfjkmgjjifhdkaaGreat.set4 at this; simpa using this
              have HM9 := Lib.hid hM9
              have HO9 := Lib.hid hO9
              have HG9 := Lib.hid hG9
              have HH9 := Lib.hid hH9
              have HB39 := Lib.hid hb39
              clear hw9 hw9' hK8 hK9 hB8 hs9 hN9 hM9 hO9 hG9 hH9 hb39 n0 n1 n2 n3 nl nf0 nf1 nf2 nf3 hN8 hH8 hF8 hN7 hH7 HM7 HO7 hb37 hB7
              obtain ⟨j0, hj, hy0, hy1, hy2⟩ := info_parts bint_inf
              obtain ⟨lk, hlk, hfl⟩ : ∃ lk, mT.G.link = lk ∧ (frL g (endP g 0 mT.G.head))[mT.G.rank]? = some lk := by
                rcases HNX.out.first with ⟨h1, _⟩ | ⟨i, h1, h2⟩
                · cases h1
                · injection h1 with h1 _
                  exact ⟨_, rfl, by rw [h1]; exact h2⟩
              have hrk2 : mT.G.rank ≤ 20000 := by
                have h1 := (List.getElem?_eq_some_iff.1 hfl).1
                have := frL_lenb HG.out (endP g 0 mT.G.head)
                omega
              obtain ⟨l0, l1, l2, l3, l4, l5, l6, l7⟩ := frL_link HG.out (List.mem_of_getElem? hfl)
              obtain ⟨ln, rfl⟩ : ∃ ln : Nat, lk = (ln : Int) := ⟨lk.toNat, by omega⟩
              have hed := end_bd HG.out HNX.out.path
              obtain ⟨tn, htn⟩ : ∃ tn : Nat, (lkAt g (ln : Int)).to = (tn : Int) := ⟨(lkAt g (ln : Int)).to.toNat, by omega⟩
              have htN : tn < N := by have := HN.out; omega
              have hht : 0 ≤ hAt g (tn : Int) := by rw [← htn]; exact l7
              have hpb := path_bd HG.out (mT.G.head ++ [(ln : Int)]) 0 (by omega) (by have := HN.out; omega) (by
                rw [path_app, HNX.out.path, Bool.true_and]
                exact path_cons.2 ⟨lvs_iff.2 ⟨l0, l1, l2⟩, rfl⟩)
              have hend : endP g 0 (mT.G.head ++ [(ln : Int)]) = (tn : Int) := by rw [endP_app]; exact htn
              rw [hend] at hpb
              have hlt11 : (mT.G.head ++ [(ln : Int)]).length ≤ tn := by omega
              have hlm := lkAt_mem (g := g) (i := (ln : Int)) ⟨l0, l1⟩
              rw [Int.toNat_natCast] at hlm
              have hlnl : ln < g.ls.length := by omega
              have hlnI : (ln : Int) < (g.ls.length : Int) := by omega
              have hln0 : (0 : Int) ≤ (ln : Int) := by omega
              obtain ⟨b, off, l, hA, hbb, hll, d0, d1, d2, d3⟩ := (HTW.out.ls.below keeps_lk HB39.out).lk hlnl
              have e1 : l = lkAt g (ln : Int) := by rw [hlm] at hll; exact (Option.some.inj hll).symm
              rw [e1, htn] at d1
              have g1 := (hB3.below HB39.out hB3.lt).cell 1
              have gl1 := (hB3.below HB39.out hB3.lt).lt
              simp at g1
              rw [hA] at g1
              have n0 := HN9.out.cell 0
              have n2 := HN9.out.cell 2
              have nl := HN9.out.lt
              simp at n0 n2
              rw [hlk] at n2
              have HNO : Hid (mT.A = none → mT.G.head.length = 0 ∧ mT.G.head.length = 0) := fun h => by
                have : mT.G.head = [] := Classical.byContradiction fun hne => by
                  obtain ⟨b, o, cs, hA2, _⟩ := HG9.out hne
                  rw [h] at hA2; cases hA2
                rw [this]; exact ⟨rfl, rfl⟩
              have HLK := Lib.hid hlk
              have HHT := Lib.hid hht
              have HTN := Lib.hid htn
              have hhd2 : mT.G.head.length ≤ 2000 := HGM.len
              have hw39 : w3.heap.size ≤ w9.heap.size := HB39.out.size
              clear hlk hfl l0 l1 l2 l3 l4 l5 l6 l7 hht hpb hend hlm hll e1 d0 d2 d3 hA htn
              refine ordB_below (.quiet 0 (.quiet 1 (.quiet 2 (.quiet 3 (.quiet 4 (.quiet 7 (.quiet 8 (.quiet 9 (.quiet 10 (.quiet 11 (.quiet 12 (.quiet 13 (.only 5 (.only 6 (.only 14 (.quiet 15 .done)))))))))))))))) (by kernel_rfl) (by kernel_rfl) (by kernel_rfl) (fun _ _ _ _ _ h => h) ?_
              intro V0 hV0
              iterate 12 (first
                | (refine ordB_skip rfl rfl ?_; simp only [Act.put, List.setIfInBounds_toArray, List.set_cons_zero, List.set_cons_succ])
                | (refine ordB_take (v := ?_) rfl rfl ?_ ?_
                   rotate_left 1
                   focus (intro W hW; obtain ⟨hcW, hfW⟩ := bcell hW; (go_simp <;> with_reducible rfl))
                   simp only [Act.put, List.setIfInBounds_toArray, List.set_cons_zero, List.set_cons_succ]))
              refine ordB_only (opB_call rfl rfl (fun K hK => ?_))
              go_simp
              refine hK.out _ _ (hV0.alloc hV0.size _) (fun hV0_1 => ?_)
              have b5 := Blk.new V0 3 #[(.int .i64 (ln : Int))]
              have b5b := nw (.cells #[(.int .i64 (ln : Int))] 3) (Below.refl V0.heap.size V0)
              have b5g := hV0.size
              obtain ⟨V0_1, qqV0_1⟩ : ∃ W', V0.alloc (.cells #[(.int .i64 (ln : Int))] 3) = W' := ⟨_, rfl⟩
              rw [qqV0_1] at hV0_1 b5 b5b ⊢
              clear qqV0_1 b5b
              refine ordB_only (opB_call rfl rfl (fun K hK => ?_))
              have hGW := HG9.out.below hV0_1
              have hHO := slt_holds hGW
              have hC : ∀ j u, ([Value.int .i64 (ln : Int)])[j]? = some u → V0_1.cell? ((⟨V0.heap.size, 0, none⟩ : Addr).add j) = some u := fun j u hj => by rw [add_mk, b5.cell]; simpa using hj
              have hBq1 : w9.heap.size ≤ V0_1.heap.size := hV0_1.size
              have hBW := hV0_1
              refine wp_grow _ _ 40 rfl 3 j0 _ 1 8 Tryz.underlying40 hj hy0 hy1 hy2 rfl (by decide) mT.A mT.G.head.length mT.G.head.length (mT.G.head.map (Value.int .i64)) rfl HNO.out (by simp) hHO ⟨V0.heap.size, 0, none⟩ 1 1 [.int .i64 (ln : Int)] rfl rfl hC (by simp [Value.oneCell']) (by omega) (by unfold maxLen; omega) (by omega) ?_
              intro v10 V0_1_2 hown10 hb10
              refine hK.out _ _ (hV0_1.trans (hb10.mono hV0_1.size)) (fun hV0_1_2 => ?_)
              have hq1 := hb10.size
              obtain ⟨Bq, hBq⟩ : ∃ b, V0_1.heap.size = b := ⟨_, rfl⟩
              rw [hBq] at hown10 hb10 hBq1 hq1
              refine ordB_only (opB_call rfl rfl (fun K hK => ?_))
              have hown11 : V0_1_2.ownsRow Bq 3 1 v10 (mT.G.head ++ [(ln : Int)]).length ((mT.G.head ++ [(ln : Int)]).map (Value.int .i64)) := by rw [List.length_append, List.map_append]; exact hown10
              go_simp
              go_at_call 36
              refine (HFI.out V0_1_2 Bq v10 (mT.G.head ++ [(ln : Int)]) tn hq1 (Nat.le_trans hw39 hBq1) (HB39.out.trans (hV0_1_2.mono hw39)) hown11 htN HHT.out hlt11).mono ?_
              rintro e V0_1_2_3 ⟨v11, rfl, hown12, hb12⟩
              refine hK.out _ _ (hV0_1_2.trans (hb12.mono hBq1)) (fun hV0_1_2_3 => ?_)
              iterate 1 (first
                | (refine ordB_skip rfl rfl ?_; simp only [Act.put, List.setIfInBounds_toArray, List.set_cons_zero, List.set_cons_succ])
                | (refine ordB_take (v := ?_) rfl rfl ?_ ?_
                   rotate_left 1
                   focus (intro W hW; obtain ⟨hcW, hfW⟩ := bcell hW; (go_simp <;> with_reducible rfl))
                   simp only [Act.put, List.setIfInBounds_toArray, List.set_cons_zero, List.set_cons_succ]))
              refine ordB_nil ?_
              obtain ⟨A11, c11, rfl, hc11, hcm11, hs11⟩ := own_slt hown12 rfl
              have HAS : Hid (mT.G.head ++ [(ln : Int)] ++ bw g (tn : Int) = mT.G.head ++ mT.G.link :: bw g (lkAt g mT.G.link).to) := by show _ = _; rw [HLK.out, HTN.out]; simp
              rw [HAS.out] at hs11 hc11 ⊢
              have hLS : LSt g w3 bh (bh + 1) B kn (.slice A11 (mT.G.head ++ mT.G.link :: bw g (lkAt g mT.G.link).to).length c11) (.slice A4 n4 c4) V0_1_2_3 := by
                refine ⟨ms', mT, mT.G.link :: bw g (lkAt g mT.G.link).to, popM ltG H7, v8, A11, c11, rfl, by rw [HN4.out]; exact own_below HO9.out hV0_1_2_3, HM9.out.below hV0_1_2_3, HN9.out.below hV0_1_2_3 HN9.out.lt, HH9.out.below hV0_1_2_3, hs11, hc11, hcm11, HG9.out.below hV0_1_2_3, ?_, by rw [HN4.out]; exact hlt4, ?_, hrk2, hhd2, HB39.out.trans (hV0_1_2_3.mono hw39), Nat.le_trans hB9 hV0_1_2_3.size⟩
                · rw [HML.out, HPM.out]
                  exact HNX.out
                · rw [HN4.out]; have := HLP.out; omega
              have HLS2 := Lib.hid hLS
              have HSL2 : Hid (sLen u10 = ms.length) := HSL
              clear hLS hs11 hown12 hb12
              go_wp2_with fail
              go_roundw
              case rel => exact HLS2
              case measure => show kn - n4 < kn - sLen u10; rw [HSL2.out]; omega
end Go.Proofs.YtfjkmgjjifhdkaaGreat

/-
  The plain law of layer 15: the number of ways, at most a thousand million.
-/
namespace Go.Proofs.YtfjkmgjjifhdkaaGreat
open List

def numStep (g : Gr) (v : Int) (tail : List Int) (acc i : Int) : Int := min (acc + tail.getD ((lkAt g i).to - v - 1).toNat 0) 1000000000
/-- The numbers of ways from the last k nodes. -/
def numS (g : Gr) : Nat → List Int
  | 0 => []
  | 1 => [1]
  | k + 2 => (lvs g (g.n - (k + 2))).foldl (numStep g (g.n - (k + 2)) (numS g (k + 1))) 0 :: numS g (k + 1)
theorem numS_len (g : Gr) : ∀ k, (numS g k).length = k
  | 0 => rfl
  | 1 => rfl
  | k + 2 => by simp [numS, numS_len g (k + 1)]
theorem numS_succ (g : Gr) {k : Nat} (hk : 1 ≤ k) : numS g (k + 1) = (lvs g (g.n - (k + 1))).foldl (numStep g (g.n - (k + 1)) (numS g k)) 0 :: numS g k := by
  obtain ⟨j, rfl⟩ : ∃ j, k = j + 1 := ⟨k - 1, by omega⟩
  rfl
def numM (g : Gr) : Int := (numS g g.n.toNat).headD 0
def numOf (g : Gr) : Int := if grB g = true then numM g else 0
theorem numStep_bd {g : Gr} {v : Int} {tail : List Int} (ht : ∀ x ∈ tail, 0 ≤ x ∧ x ≤ 1000000000) : ∀ (L : List Int) (a : Int), 0 ≤ a ∧ a ≤ 1000000000 → 0 ≤ L.foldl (numStep g v tail) a ∧ L.foldl (numStep g v tail) a ≤ 1000000000 := by
  intro L
  induction L with
  | nil => intro a h; exact h
  | cons i L ih =>
    intro a h
    rw [foldl_cons]
    refine ih _ ?_
    unfold numStep
    have h1 : 0 ≤ tail.getD ((lkAt g i).to - v - 1).toNat 0 := by
      rw [getD_eq_getElem?_getD]
      cases hx : tail[((lkAt g i).to - v - 1).toNat]? with
      | none => simp
      | some x => exact (ht x (mem_of_getElem? hx)).1
    omega
theorem numS_bd (g : Gr) : ∀ k, ∀ x ∈ numS g k, 0 ≤ x ∧ x ≤ 1000000000
  | 0 => fun x h => by simp [numS] at h
  | 1 => fun x h => by simp [numS] at h; omega
  | k + 2 => fun x h => by
    have ih := numS_bd g (k + 1)
    rcases mem_cons.1 h with rfl | h
    · exact numStep_bd ih _ 0 (by omega)
    · exact ih x h
theorem getD_bdn {l : List Int} (h : ∀ x ∈ l, 0 ≤ x ∧ x ≤ 1000000000) (i : Nat) : 0 ≤ l.getD i 0 ∧ l.getD i 0 ≤ 1000000000 := by
  rw [getD_eq_getElem?_getD]
  cases hx : l[i]? with
  | none => simp
  | some x => exact h x (mem_of_getElem? hx)
end Go.Proofs.YtfjkmgjjifhdkaaGreat
