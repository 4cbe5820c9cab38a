/-
  The walks of layer 21: Adapt.
-/
import Derived.Test.YtpjecpefbfobdaaAreaTap
import Derived.Test.YtpjecpefbfobdaaAreaWalkG
namespace Go.Proofs.Ytpjecpefbfobdaa
open Go Go.RowKit

theorem index_no (A : Option Addr) (us : List Ar) (c : Nat) (key : Int) (B : Nat) (w : World) (hx : SlR 5 RAr w A us) (hl : us.length ≤ 65536) (hB : B < w.heap.size) (h0 : w.cell? ⟨B, 0, none⟩ = some (.int .u8 key)) (hno : areaOf us key = none) :
    Calls Try.prog 40 #[.slice A us.length c, .func (.func 41) #[] #[.pointer (some ⟨B, 0, none⟩)]] w fun e w' => e = .returned (.int .i64 (-1)) ∧ Below w.heap.size w w' :=
  (index_any A us c key B w hx hl hB h0).mono fun e w' ⟨h, hb⟩ => by
    rcases h with ⟨i, a, _, h1, _⟩ | ⟨_, h1⟩
    · rw [hno] at h1; cases h1
    · exact ⟨h1, hb⟩
theorem index_yes (A : Option Addr) (us : List Ar) (c : Nat) (key : Int) (B : Nat) (a : Ar) (w : World) (hx : SlR 5 RAr w A us) (hl : us.length ≤ 65536) (hB : B < w.heap.size) (h0 : w.cell? ⟨B, 0, none⟩ = some (.int .u8 key)) (hyes : areaOf us key = some a) :
    Calls Try.prog 40 #[.slice A us.length c, .func (.func 41) #[] #[.pointer (some ⟨B, 0, none⟩)]] w fun e w' => (∃ q : Nat, us[q]? = some a ∧ e = .returned (.int .i64 q)) ∧ Below w.heap.size w w' :=
  (index_any A us c key B w hx hl hB h0).mono fun e w' ⟨h, hb⟩ => by
    rcases h with ⟨i, a', h0, h1, h2⟩ | ⟨h1, _⟩
    · rw [hyes] at h1
      rw [Option.some.inj h1]
      exact ⟨⟨i, h0, h2⟩, hb⟩
    · rw [hyes] at h1; cases h1
theorem search_no (A : Option Addr) (xs : List Tp) (c : Nat) (key : Int) (w : World) (hx : SlR 4 RTp w A xs) (hl : xs.length ≤ 65536) (hs : IncT xs) (hno : ∀ x ∈ xs, x.key ≠ key) :
    Calls Try.prog 42 #[.slice A xs.length c, .int .u8 key, .func (.func 43) #[] #[]] w fun e w' =>
      ∃ i : Nat, i ≤ xs.length ∧ PlaceT xs key i ∧ e = .returned (.tuple #[.int .i64 i, .bool false]) ∧ Below w.heap.size w w' :=
  (search_any A xs c key w hx hl hs).mono fun e w' ⟨i, f, h1, h2, h3, h4, h5⟩ => by
    cases f with
    | false => exact ⟨i, h1, h2, h4, h5⟩
    | true =>
      obtain ⟨x, hx, hk⟩ := h3.1 rfl
      exact absurd hk (hno x (List.mem_of_getElem? hx))
theorem search_yes (A : Option Addr) (xs : List Tp) (c : Nat) (key : Int) (x0 : Tp) (w : World) (hx : SlR 4 RTp w A xs) (hl : xs.length ≤ 65536) (hs : IncT xs) (hm : x0 ∈ xs) (hk : x0.key = key) :
    Calls Try.prog 42 #[.slice A xs.length c, .int .u8 key, .func (.func 43) #[] #[]] w fun e w' =>
      ∃ i : Nat, xs[i]? = some x0 ∧ PlaceT xs key i ∧ e = .returned (.tuple #[.int .i64 i, .bool true]) ∧ Below w.heap.size w w' :=
  (search_any A xs c key w hx hl hs).mono fun e w' ⟨i, f, h1, h2, h3, h4, h5⟩ => by
    obtain ⟨j, hj, rfl⟩ := List.getElem_of_mem hm
    have hj' := List.getElem?_eq_getElem hj
    have hge : i ≤ j := by
      rcases Nat.lt_or_ge j i with h | h
      · have := h2.1 j _ h hj'; omega
      · exact h
    have hij : i = j := by
      rcases Nat.lt_or_ge i j with h | h
      · have hi' := List.getElem?_eq_getElem (show i < xs.length by omega)
        have := hs.at_ h hi' hj'
        have := h2.2 i _ (Nat.le_refl _) hi'
        omega
      · omega
    subst hij
    have hf : f = true := h3.2 ⟨_, hj', hk⟩
    subst hf
    exact ⟨i, hj', h2, h4, h5⟩

theorem cur_at {n : Nat} {L : List Tp} {cur : List Value} (htk : cur.take (n * 4) = L.flatMap encT) {i : Nat} {x : Tp} (hx : L[i]? = some x) (j : Nat) (u : Value) (hu : (encT x)[j]? = some u) : cur[i * 4 + j]? = some u := by
  have hi := (List.getElem?_eq_some_iff.1 hx).1
  have hj : j < 4 := (List.getElem?_eq_some_iff.1 hu).1
  have key : ∀ (l : List Tp) (k : Nat), l[k]? = some x → (l.flatMap encT)[k * 4 + j]? = some u := by
    intro l
    induction l with
    | nil => intro k h; simp at h
    | cons y l ih =>
      intro k hk
      cases k with
      | zero =>
        simp at hk; subst hk
        rw [List.flatMap_cons, Nat.zero_mul, Nat.zero_add, List.getElem?_append_left (show j < (encT y).length from hj)]
        exact hu
      | succ k =>
        rw [List.flatMap_cons, List.getElem?_append_right (by show 4 ≤ _; omega), show (k + 1) * 4 + j - (encT y).length = k * 4 + j by show _ - 4 = _; omega]
        exact ih k (by simpa using hk)
  have h1 := key L i hx
  rw [← htk, List.getElem?_take] at h1
  split at h1
  · exact h1
  · cases h1

theorem end_own {w : World} {base g c i n : Nat} {L : List Tp} (t : Tp) (o1 o2 : Obj) (hown : w.ownsRow base 82 4 (.slice (some ⟨g, 0, none⟩) n c) n (L.flatMap encT)) (hn : n = L.length) (hi : i < n) :
    ((((((w.setCell ⟨g, i * 4, none⟩ (.int .u8 t.key)).setCell ⟨g, i * 4 + 1, none⟩ (.int .i64 t.dx)).setCell ⟨g, i * 4 + 2, none⟩ (.int .i64 t.dy)).setCell ⟨g, i * 4 + 3, none⟩ (.int .i64 t.n)).alloc o1).alloc o2).ownsRow base 82 4 (.slice (some ⟨g, 0, none⟩) n c) (L.set i t).length ((L.set i t).flatMap encT) := by
  rw [List.length_set, ← hn]
  exact ((own_setT (t := t) hown hn hi).alloc o1).alloc o2
theorem end_below {B : Nat} {a w : World} (h : Below B a w) {g : Nat} (hg : B ≤ g) (hB : B ≤ w.heap.size) (i : Nat) (u0 u1 u2 u3 : Value) (o1 o2 : Obj) :
    Below B a ((((((w.setCell ⟨g, i * 4, none⟩ u0).setCell ⟨g, i * 4 + 1, none⟩ u1).setCell ⟨g, i * 4 + 2, none⟩ u2).setCell ⟨g, i * 4 + 3, none⟩ u3).alloc o1).alloc o2) := by
  have h1 := (((h.setCell (p := ⟨g, i * 4, none⟩) hg u0).setCell (p := ⟨g, i * 4 + 1, none⟩) hg u1).setCell (p := ⟨g, i * 4 + 2, none⟩) hg u2).setCell (p := ⟨g, i * 4 + 3, none⟩) hg u3
  exact (h1.alloc (by simpa using hB) o1).alloc (by simp; omega) o2

set_option maxHeartbeats 8000000 in
set_option maxRecDepth 100000 in
theorem adapt_any (us : List Ar) (A : Option Addr) (c : Nat) (v1 v2 : Value) (ts : List Tp) (B : Option Addr) (d : Nat) (key : Int) (p : Pt) (w : World) (hx : SlR 5 RAr w A us) (hl : us.length ≤ 60000) (ha : ∀ a ∈ us, ArOK a)
    (hy : SlR 4 RTp w B ts) (hl2 : ts.length ≤ 60000) (hT : ∀ t ∈ ts, TpOK t) (hN : ∀ t ∈ ts, Small t.n) (hinc : IncT ts) :
    Calls Try.prog 17 #[.agg #[.slice A us.length c, v1, v2], .slice B ts.length d, .int .u8 key, vPt p] w fun e w' => ∃ v, e = .returned (.tuple #[v, .int .i64 (adaptOf us ts key p).2]) ∧
      w'.ownsRow w.heap.size 82 4 v (adaptOf us ts key p).1.length ((adaptOf us ts key p).1.flatMap encT) ∧ Below w.heap.size w w' := by
  obtain ⟨w4, hw4⟩ : ∃ w4, (((w.alloc (.cells #[.slice A us.length c, v1, v2] 31)).alloc (.cells #[.int .u8 key] 5)).alloc (.cells #[.int .i64 p.x, .int .i64 p.y] 36)).alloc (.cells #[.int .i64 p.x, .int .i64 p.y] 3) = w4 := ⟨_, rfl⟩
  have hbw4 : Below w.heap.size w w4 := by rw [← hw4]; exact nw _ (nw _ (nw _ (nw _ (Below.refl _ _))))
  have hB0 : Blk w4 w.heap.size 31 #[.slice A us.length c, v1, v2] := by rw [← hw4]; exact (((Blk.new _ _ _).alloc _).alloc _).alloc _
  have hB1 : Blk w4 (w.heap.size + 1) 5 #[.int .u8 key] := by rw [← hw4]; exact ((Blk.new_ (by simp)).alloc _).alloc _
  have hB3 : Blk w4 (w.heap.size + 1 + 1) 36 #[.int .i64 p.x, .int .i64 p.y] := by rw [← hw4]; exact (Blk.new_ (by simp)).alloc _
  have hB2 : Blk w4 (w.heap.size + 1 + 1 + 1) 3 #[.int .i64 p.x, .int .i64 p.y] := by rw [← hw4]; exact Blk.new_ (by simp)
  have hsz4 : w4.heap.size = w.heap.size + 1 + 1 + 1 + 1 := by rw [← hw4]; simp
  have HI : Hid (Calls Try.prog 31 #[.slice (some ⟨w.heap.size + 1 + 1 + 1, 0, none⟩) 2 2] w4 fun e w' => e = .returned (.bool (insideB p)) ∧ w4 = w') := by
    have := coordinates_any (some ⟨w.heap.size + 1 + 1 + 1, 0, none⟩) [p.x, p.y] 2 w4 (fun _ => ⟨_, 0, rfl, hB2.lt, fun k x hx => by
      match k, hx with
      | 0, hx => simp at hx; subst hx; exact ⟨_, rfl, rfl, fun j v hj => by (match j, hj with | 0, hj => simp at hj; rw [← hj]; exact hB2.cell 0 | j + 1, hj => simp at hj)⟩
      | 1, hx => simp at hx; subst hx; exact ⟨_, rfl, rfl, fun j v hj => by (match j, hj with | 0, hj => simp at hj; rw [← hj]; exact hB2.cell 1 | j + 1, hj => simp at hj)⟩
      | k + 2, hx => simp at hx⟩) (by simp)
    have e : [p.x, p.y].all coordB = insideB p := by simp [insideB]
    rw [e] at this
    exact this
  have HK : Hid (∀ W, Below (w.heap.size + 3) w4 W → W.cell? ⟨w.heap.size, 0, none⟩ = some (.slice A us.length c) ∧ W.cell? ⟨w.heap.size + 1, 0, none⟩ = some (.int .u8 key) ∧ W.cell? ⟨w.heap.size + 1 + 1, 0, none⟩ = some (.int .i64 p.x) ∧ W.cell? ⟨w.heap.size + 1 + 1, 1, none⟩ = some (.int .i64 p.y) ∧ w.heap.size < W.heap.size ∧ w.heap.size + 1 < W.heap.size ∧ w.heap.size + 1 + 1 < W.heap.size) := fun W hW =>
    ⟨(hB0.below hW (by omega)).cell 0, (hB1.below hW (by omega)).cell 0, (hB3.below hW (by omega)).cell 0, (hB3.below hW (by omega)).cell 1, (hB0.below hW (by omega)).lt, (hB1.below hW (by omega)).lt, (hB3.below hW (by omega)).lt⟩
  have HW4 := Lib.hid hw4
  clear hw4 hB0 hB1 hB2 hB3
  obtain ⟨k0, k1, k2, k3, j0, j1, j2⟩ := HK.out _ (Below.refl _ _)
  cases hin : insideB p with
  | false =>
    have HT := Lib.hid (show adaptOf us ts key p = ([], 1) by unfold adaptOf; rw [hin]; rfl)
    rw [hin] at HI
    go_enter Try.func17, Try.ntmps17
    go_wp2_with (go_at_call 31; go_loud (rw [HW4.out]; refine HI.out.mono ?_; rintro e w5 ⟨rfl, rfl⟩))
    go_ret2
    exact ⟨_, by rw [HT.out]; rfl, by rw [HT.out]; exact own_nil _ _ _ _, hbw4⟩
  | true =>
    rw [hin] at HI
    cases har : areaOf us key with
    | none =>
      have HT := Lib.hid (show adaptOf us ts key p = ([], 210) by unfold adaptOf; rw [hin, har]; rfl)
      have HX := Lib.hid (index_no A us c key (w.heap.size + 1) w4 (hx.below keeps_ar hbw4) (by omega) j1 k1 har)
      clear hin har
      go_enter Try.func17, Try.ntmps17
      go_wp2_with (first | (go_at_call 31; go_loud (rw [HW4.out]; refine HI.out.mono ?_; rintro e w5 ⟨rfl, rfl⟩)) | (go_at_call 40; go_loud (refine HX.out.mono ?_; rintro e w5 ⟨rfl, hb5⟩)))
      go_ret2
      exact ⟨_, by rw [HT.out]; rfl, by rw [HT.out]; exact own_nil _ _ _ _, hbw4.trans (hb5.mono (by omega))⟩
    | some a =>
      have HT := Lib.hid (show adaptOf us ts key p = (putT ts key (newT (tapOf ts key) (midOf a) p), 0) by unfold adaptOf; rw [hin, har]; rfl)
      have HX := Lib.hid (index_yes A us c key (w.heap.size + 1) a w4 (hx.below keeps_ar hbw4) (by omega) j1 k1 har)
      have HAok := Lib.hid (ha a (List.mem_of_find?_eq_some har))
      have hp := inside_ok hin
      have hm := mid_small HAok.out
      have hpx : 0 ≤ p.x ∧ p.x ≤ 1000 := by unfold insideB coordB at hin; simp at hin; omega
      have hpy : 0 ≤ p.y ∧ p.y ≤ 1000 := by unfold insideB coordB at hin; simp at hin; omega
      clear hin har hp
      by_cases hex : ∃ x ∈ ts, x.key = key
      · obtain ⟨x0, hx0m, hx0k⟩ := hex
        have hx0ok := hT x0 hx0m
        have hx0n := hN x0 hx0m
        have HSe : Hid (∀ W, Below w.heap.size w W → Calls Try.prog 42 #[.slice B ts.length d, .int .u8 key, .func (.func 43) #[] #[]] W fun e w' =>
            ∃ i : Nat, ts[i]? = some x0 ∧ PlaceT ts key i ∧ e = .returned (.tuple #[.int .i64 i, .bool true]) ∧ Below W.heap.size W w') := fun W hW => search_yes B ts d key x0 W (hy.below keeps_tp hW) (by omega) hinc hx0m hx0k
        have HCl : Hid (∀ W, Below w.heap.size w W → Calls Try.prog 44 #[.slice B ts.length d] W fun e w' => ∃ v, e = .returned v ∧ w'.ownsRow W.heap.size 82 4 v ts.length (ts.flatMap encT) ∧ Below W.heap.size W w') := fun W hW =>
          cloneT_any B ts d W (hy.below keeps_tp hW) (by omega)
        have HK0 := Lib.hid hx0k
        have HINC := Lib.hid hinc
        clear hx0k hx0m hinc
        obtain ⟨hdx, hdy⟩ := hx0ok
        obtain ⟨hmx, hmy⟩ := hm
        unfold Small at hdx hdy hmx hmy hx0n
        go_enter Try.func17, Try.ntmps17
        go_wp2_with (first | (go_at_call 31; go_loud (rw [HW4.out]; refine HI.out.mono ?_; rintro e w5 ⟨rfl, rfl⟩)) | (go_at_call 40; go_loud (refine HX.out.mono ?_; rintro e w5 ⟨⟨q, hq, rfl⟩, hb5⟩; have hq := Lib.hid hq; have hqlt := (List.getElem?_eq_some_iff.1 hq.out).1; have hbw5 := hb5.mono (show w.heap.size + 3 ≤ _ by omega); have hs5 := hb5.size; obtain ⟨k50, k51, k52, k53, j50, j51, j52⟩ := HK.out _ hbw5)) | (go_at_call 42; go_loud (refine (HSe.out _ (hbw4.trans (hbw5.mono (by omega)))).mono ?_; rintro e w6 ⟨i, hi0, hpl, rfl, hb6⟩; have HI0 := Lib.hid hi0; have HPL := Lib.hid hpl; have hbw6 := hbw5.trans (hb6.mono (by omega)); have hs6 := hb6.size; have hilt := (List.getElem?_eq_some_iff.1 HI0.out).1; clear hi0 hpl)) | (go_at_call 44; go_loud (refine (HCl.out _ (hbw4.trans (hbw6.mono (by omega)))).mono ?_; rintro e w7 ⟨v7, rfl, hown7, hb7⟩; obtain ⟨g, cap, cur, rfl, hg, hblk, hnc, hcm, hcl, htk⟩ := blk_of_own hown7 (by omega); have hbw7 := hbw6.trans (hb7.mono (by omega)); have hs7 := hb7.size; have HBlk := Lib.hid hblk; have HCL := Lib.hid hcl; have HTK := Lib.hid htk; have HOw := Lib.hid hown7; clear hblk hcl htk hcm hown7; have HC0 := Lib.hid (cur_at HTK.out HI0.out 0 _ rfl); have HC1 := Lib.hid (cur_at HTK.out HI0.out 1 _ rfl); have HC2 := Lib.hid (cur_at HTK.out HI0.out 2 _ rfl); have HC3 := Lib.hid (cur_at HTK.out HI0.out 3 _ rfl); obtain ⟨k70, k71, k72, k73, j70, j71, j72⟩ := HK.out _ hbw7; have hbw := Lib.hid (hbw4.trans (hbw7.mono (by omega))); obtain ⟨b, off, a', hA, hbb, haa, d0, d1, d2, d3, d4⟩ := (hx.below keeps_ar hbw.out).ar hqlt; subst hA; have e9 : a' = a := (by rw [hq.out] at haa; exact (Option.some.inj haa).symm); subst e9; clear haa)) | (go_at_call 46; go_loud (refine (middle_any a' w7 HAok.out).mono ?_; rintro e w8 ⟨rfl, hb8⟩; have hbw8 := hbw7.trans (hb8.mono (by omega)); have hs8 := hb8.size; obtain ⟨k80, k81, k82, k83, j80, j81, j82⟩ := HK.out _ hbw8; have HOw8 := Lib.hid (own_below HOw.out hb8); have hB8 := HBlk.out.below hb8 HBlk.out.lt; have HB8 := Lib.hid hB8; have r0 := hB8.cell (i * 4); have r1 := hB8.cell (i * 4 + 1); have r2 := hB8.cell (i * 4 + 2); have r3 := hB8.cell (i * 4 + 3); rw [List.getElem?_toArray] at r0 r1 r2 r3; replace r0 := r0.trans HC0.out; replace r1 := r1.trans HC1.out; replace r2 := r2.trans HC2.out; replace r3 := r3.trans HC3.out; have z0 := hB8.frozen (i * 4); have z1 := hB8.frozen (i * 4 + 1); have z2 := hB8.frozen (i * 4 + 2); have z3 := hB8.frozen (i * 4 + 3); have hg8 := hB8.lt; have y1 : g ≠ w8.heap.size := (by omega); have y2 : g ≠ w8.heap.size + 1 := (by omega); have y3 : w.heap.size + 1 + 1 ≠ w8.heap.size := (by omega); have y4 : w.heap.size + 1 + 1 ≠ w8.heap.size + 1 := (by omega); clear hB8)))
        · have hc64 : x0.n + 1 = 64 := by rename_i h; simpa using h
          have HP : Hid (adaptOf us ts key p = (ts.set i ⟨x0.key, (x0.dx + (p.x - (midOf a').x)).tdiv 2, (x0.dy + (p.y - (midOf a').y)).tdiv 2, (x0.n + 1).tdiv 2⟩, 0)) := by
            show adaptOf us ts key p = _
            rw [HT.out, find_yes HI0.out HK0.out HINC.out, ← put_set HPL.out HI0.out HK0.out HINC.out]
            unfold newT halfT
            rw [if_pos (show (bumpT x0 (midOf a') p).n = 64 from hc64), hc64]
            rfl
          go_ret2
          exact ⟨_, by rw [HP.out]; rfl, by rw [HP.out]; exact own_base (end_own ⟨x0.key, (x0.dx + (p.x - (midOf a').x)).tdiv 2, (x0.dy + (p.y - (midOf a').y)).tdiv 2, (x0.n + 1).tdiv 2⟩ _ _ HOw8.out rfl hilt) (by omega), end_below (hbw4.trans (hbw8.mono (by omega))) (by omega) (by omega) i _ _ _ _ _ _⟩
        · have hc64 : ¬ x0.n + 1 = 64 := by rename_i h; simpa using h
          have HP : Hid (adaptOf us ts key p = (ts.set i (bumpT x0 (midOf a') p), 0)) := by
            show adaptOf us ts key p = _
            rw [HT.out, find_yes HI0.out HK0.out HINC.out, ← put_set HPL.out HI0.out HK0.out HINC.out]
            unfold newT halfT
            rw [if_neg (show ¬ (bumpT x0 (midOf a') p).n = 64 from hc64)]
          go_ret2
          exact ⟨_, by rw [HP.out]; rfl, by rw [HP.out]; exact own_base (end_own (bumpT x0 (midOf a') p) _ _ HOw8.out rfl hilt) (by omega), end_below (hbw4.trans (hbw8.mono (by omega))) (by omega) (by omega) i _ _ _ _ _ _⟩
      · have HSe : Hid (∀ W, Below w.heap.size w W → Calls Try.prog 42 #[.slice B ts.length d, .int .u8 key, .func (.func 43) #[] #[]] W fun e w' =>
            ∃ i : Nat, i ≤ ts.length ∧ PlaceT ts key i ∧ e = .returned (.tuple #[.int .i64 i, .bool false]) ∧ Below W.heap.size W w') := fun W hW => search_no B ts d key W (hy.below keeps_tp hW) (by omega) hinc (fun x hm hk => hex ⟨x, hm, hk⟩)
        have HCl : Hid (∀ W, Below w.heap.size w W → Calls Try.prog 44 #[.slice B ts.length d] W fun e w' => ∃ v, e = .returned v ∧ w'.ownsRow W.heap.size 82 4 v ts.length (ts.flatMap encT) ∧ Below W.heap.size W w') := fun W hW =>
          cloneT_any B ts d W (hy.below keeps_tp hW) (by omega)
        have HNO : Hid (∀ (i : Nat) (x : Tp), ts[i]? = some x → x.key ≠ key) := fun i x hx hk => hex ⟨x, List.mem_of_getElem? hx, hk⟩
        have HINC := Lib.hid hinc
        obtain ⟨hmx, hmy⟩ := hm
        unfold Small at hmx hmy
        clear hex hinc
        go_enter Try.func17, Try.ntmps17
        go_wp2_with (first | (go_at_call 31; go_loud (rw [HW4.out]; refine HI.out.mono ?_; rintro e w5 ⟨rfl, rfl⟩)) | (go_at_call 40; go_loud (refine HX.out.mono ?_; rintro e w5 ⟨⟨q, hq, rfl⟩, hb5⟩; have hq := Lib.hid hq; have hqlt := (List.getElem?_eq_some_iff.1 hq.out).1; have hbw5 := hb5.mono (show w.heap.size + 3 ≤ _ by omega); have hs5 := hb5.size; obtain ⟨k50, k51, k52, k53, j50, j51, j52⟩ := HK.out _ hbw5)) | (go_at_call 42; go_loud (refine (HSe.out _ (hbw4.trans (hbw5.mono (by omega)))).mono ?_; rintro e w6 ⟨i, hile, hpl, rfl, hb6⟩; have HPL := Lib.hid hpl; have hbw6 := hbw5.trans (hb6.mono (by omega)); have hs6 := hb6.size; clear hpl)) | (go_at_call 44; go_loud (refine (HCl.out _ (hbw4.trans (hbw6.mono (by omega)))).mono ?_; rintro e w7 ⟨v7, rfl, hown7, hb7⟩; obtain ⟨A7, c7, rfl, hnc7, hcm7, _⟩ := own_slr (R := RTp) hown7 (fun _ => rfl) (fun _ => rfl) rfl; have hbw7 := hbw6.trans (hb7.mono (by omega)); have hs7 := hb7.size; obtain ⟨k70, k71, k72, k73, j70, j71, j72⟩ := HK.out _ hbw7; have HIns := Lib.hid (insT_any A7 c7 ts ⟨key, 0, 0, 0⟩ i (w.heap.size + 3) w7.heap.size (w7.alloc (.cells #[.int .u8 key, .int .i64 0, .int .i64 0, .int .i64 0] 82)) (own_base (hown7.alloc _) (by omega)) hnc7 hcm7 hile (Blk.new _ _ _) (own_lt hown7 (Nat.le_refl _)) (by simp; omega) (by omega)); clear hown7 hcm7)) | (go_at_call 45; go_loud (refine HIns.out.mono ?_; rintro e w9 ⟨v9, rfl, hown9, hb9, _⟩; obtain ⟨g, cap, cur, rfl, hg, hblk, hnc, hcm, hcl, htk⟩ := blk_of_own hown9 (by omega); have hbw9 := (hbw7.alloc (by omega) (.cells #[.int .u8 key, .int .i64 0, .int .i64 0, .int .i64 0] 82)).trans hb9; have hs9 := hb9.size; simp at hs9; have HBlk := Lib.hid hblk; have HTK := Lib.hid htk; have HOw := Lib.hid hown9; clear hblk hcl htk hcm hown9; have HI0 := Lib.hid (ins_at hile (⟨key, 0, 0, 0⟩ : Tp)); have HC0 := Lib.hid (cur_at HTK.out HI0.out 0 _ rfl); have HC1 := Lib.hid (cur_at HTK.out HI0.out 1 _ rfl); have HC2 := Lib.hid (cur_at HTK.out HI0.out 2 _ rfl); have HC3 := Lib.hid (cur_at HTK.out HI0.out 3 _ rfl); obtain ⟨k90, k91, k92, k93, j90, j91, j92⟩ := HK.out _ hbw9; have hbw := Lib.hid (hbw4.trans (hbw9.mono (by omega))); obtain ⟨b, off, a', hA, hbb, haa, d0, d1, d2, d3, d4⟩ := (hx.below keeps_ar hbw.out).ar hqlt; subst hA; have e9 : a' = a := (by rw [hq.out] at haa; exact (Option.some.inj haa).symm); subst e9; clear haa)) | (go_at_call 46; go_loud (refine (middle_any a' w9 HAok.out).mono ?_; rintro e w8 ⟨rfl, hb8⟩; have hbw8 := hbw9.trans (hb8.mono (by omega)); have hs8 := hb8.size; obtain ⟨k80, k81, k82, k83, j80, j81, j82⟩ := HK.out _ hbw8; have HOw8 := Lib.hid (own_below HOw.out hb8); have hB8 := HBlk.out.below hb8 HBlk.out.lt; have HB8 := Lib.hid hB8; have r0 := hB8.cell (i * 4); have r1 := hB8.cell (i * 4 + 1); have r2 := hB8.cell (i * 4 + 2); have r3 := hB8.cell (i * 4 + 3); rw [List.getElem?_toArray] at r0 r1 r2 r3; replace r0 := r0.trans HC0.out; replace r1 := r1.trans HC1.out; replace r2 := r2.trans HC2.out; replace r3 := r3.trans HC3.out; have z0 := hB8.frozen (i * 4); have z1 := hB8.frozen (i * 4 + 1); have z2 := hB8.frozen (i * 4 + 2); have z3 := hB8.frozen (i * 4 + 3); have hg8 := hB8.lt; have y1 : g ≠ w8.heap.size := (by omega); have y2 : g ≠ w8.heap.size + 1 := (by omega); have y3 : w.heap.size + 1 + 1 ≠ w8.heap.size := (by omega); have y4 : w.heap.size + 1 + 1 ≠ w8.heap.size + 1 := (by omega); clear hB8)))
        have HP : Hid (adaptOf us ts key p = ((insAt ts i ⟨key, 0, 0, 0⟩).set i ⟨key, p.x - (midOf a').x, p.y - (midOf a').y, 1⟩, 0)) := by
          show adaptOf us ts key p = _
          have e : newT ⟨key, 0, 0, 0⟩ (midOf a') p = ⟨key, p.x - (midOf a').x, p.y - (midOf a').y, 1⟩ := by
            unfold newT halfT bumpT
            simp
          rw [HT.out, find_no HPL.out (HNO.out i) HINC.out, ← put_ins HPL.out (HNO.out i) HINC.out hile ⟨key, 0, 0, 0⟩, e]
        go_ret2
        exact ⟨_, by rw [HP.out]; rfl, by rw [HP.out]; exact own_base (end_own ⟨key, p.x - (midOf a').x, p.y - (midOf a').y, 1⟩ _ _ HOw8.out (ins_len hile _).symm (by omega)) (by omega), end_below (hbw4.trans (hbw8.mono (by omega))) (by omega) (by omega) i _ _ _ _ _ _⟩
end Go.Proofs.Ytpjecpefbfobdaa
