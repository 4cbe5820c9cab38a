/-
  CxWalkP, CxMb, joined. No conditions.
-/
import Derived.Test.YtfjkmgjjifhdkaaZ37
import Derived.Test.YtfjkmgjjifhdkaaZ34
/-
  The walks of layer 20: graphs that are built for the laws, and compared.
-/
namespace Go.Proofs.Ytfjkmgjjifhdkaa
open Go Go.RowKit

/-- A cell that is stored apart from a row leaves the row. -/
theorem SlR.away {α : Type} {s : Nat} {R : World → α → List Value → Prop} {w : World} {A : Option Addr} {xs : List α} (hR : ∀ w w' x vs, R w x vs → R w' x vs) (h : SlR s R w A xs) {p : Addr} (hp : ∀ a, A = some a → a.block ≠ p.block) (u : Value) : SlR s R (w.setCell p u) A xs := fun hn => by
  obtain ⟨b, off, rfl, hlt, hc⟩ := h hn
  refine ⟨b, off, rfl, by simpa using hlt, fun k x hx => ?_⟩
  obtain ⟨vs, hr, hl, hv⟩ := hc k x hx
  exact ⟨vs, hR _ _ _ _ hr, hl, fun j v hj => (World.cell?_of_block (a := ⟨b, off + k * s + j, none⟩) (Below.heap_setCell w p u b (hp _ rfl))).trans (hv j v hj)⟩
set_option maxRecDepth 100000 in
set_option maxHeartbeats 16000000 in
theorem lawbuild_any (x : La) (A : Option Addr) (c : Nat) (m : Mo) (A1 A2 A3 : Option Addr) (c1 c2 c3 : Nat) (prev : Int) (w : World) (hx : SlR 4 REd w A x.es) (hes : x.es.length ≤ 100) (hm : MoR w m A1 A2 A3) (hc3 : m.ps.length ≤ c3) (hm3 : c3 ≤ maxLen) :
    Calls Try.prog 8 #[.agg #[.int .i64 x.n, .slice A x.es.length c], .agg #[.slice A1 m.ws.length c1, .slice A2 m.cs.length c2, .slice A3 m.ps.length c3, .int .i64 m.back], .int .i64 prev] w (GivesRB (buM x m prev) w) := by
  obtain ⟨w2, hw2⟩ : ∃ w2, ((w.alloc (.cells #[.int .i64 x.n, .slice A x.es.length c] 38)).alloc (.cells #[.slice A1 m.ws.length c1, .slice A2 m.cs.length c2, .slice A3 m.ps.length c3, .int .i64 m.back] 34)).alloc (.cells #[.int .i64 0, .slice none 0 0, .slice none 0 0, .int .i64 0] 45) = w2 := ⟨_, rfl⟩
  have hb2 : Below w.heap.size w w2 := by rw [← hw2]; exact nw _ (nw _ (nw _ (Below.refl _ _)))
  have hLB : Blk w2 w.heap.size 38 #[.int .i64 x.n, .slice A x.es.length c] := by rw [← hw2]; exact ((Blk.new _ _ _).alloc _).alloc _
  have hMB : Blk w2 (w.heap.size + 1) 34 #[.slice A1 m.ws.length c1, .slice A2 m.cs.length c2, .slice A3 m.ps.length c3, .int .i64 m.back] := by rw [← hw2]; exact (Blk.new_ (by simp)).alloc _
  have hRB : Blk w2 (w.heap.size + 2) 45 #[.int .i64 0, .slice none 0 0, .slice none 0 0, .int .i64 0] := by rw [← hw2]; exact Blk.new_ (by simp)
  have HW2 := Lib.hid hw2
  have l0 := hLB.cell 0
  have l1 := hLB.cell 1
  have ll := hLB.lt
  have m0 := hMB.cell 0
  have m1 := hMB.cell 1
  have m2 := hMB.cell 2
  have m3 := hMB.cell 3
  have ml := hMB.lt
  simp at l0 l1 m0 m1 m2 m3
  have HB2 := Lib.hid hb2
  have HRB := Lib.hid hRB
  have HCB := Lib.hid (build_any x A c m A1 A2 A3 c1 c2 c3 prev w2 (hx.below keeps_ed hb2) hes (hm.below hb2) hc3 hm3)
  clear hw2 hb2 hLB hMB hRB hx hm
  generalize buM x m prev = b at *
  go_enter Try.func8, Try.ntmps8
  go_upto_region 1 with fail
  rw [HW2.out]
  go_upto_region 2 with (go_at_call 23; go_loud (refine HCB.out.mono ?_; rintro e w8 ⟨LA, LB, cA, cB, rfl, hs1, hs2, hcc, hb8, hoA, hoB⟩; clear l0 l1 m0 m1 m2 m3 ll ml))
  obtain ⟨w9, hw9⟩ : ∃ W, w8.alloc (.cells #[.int .i64 b.g.n, .slice LA b.g.ls.length cA] 42) = W := ⟨_, rfl⟩
  have hb9 : Below w8.heap.size w8 w9 := by rw [← hw9]; exact nw _ (Below.refl _ _)
  have hGB : Blk w9 w8.heap.size 42 #[.int .i64 b.g.n, .slice LA b.g.ls.length cA] := by rw [← hw9]; exact Blk.new _ _ _
  have hB9 := bthen hb8 hb9
  have hR9 := HRB.out.below hB9 HRB.out.lt
  have HHB := Lib.hid (HB2.out.trans (hB9.mono HB2.out.size))
  have HS9 := Lib.hid (And.intro (hs1.below keeps_lk hb9) (hs2.below keeps_int hb9))
  have HRX := Lib.hid hR9
  have HCC := Lib.hid hcc
  have hsz2 : w.heap.size + 2 < w2.heap.size := HRB.out.lt
  have HOW := Lib.hid (And.intro hoA hoB)
  have HOA : Hid ((∀ a, LA = some a → a.block ≠ w.heap.size + 2) ∧ (∀ a, LB = some a → a.block ≠ w.heap.size + 2)) := ⟨fun a h => by have := hoA a h; omega, fun a h => by have := hoB a h; omega⟩
  have r0 := hR9.cell 0
  have r1 := hR9.cell 1
  have r2 := hR9.cell 2
  have r3 := hR9.cell 3
  have rf0 := hR9.frozen 0
  have rf1 := hR9.frozen 1
  have rf2 := hR9.frozen 2
  have rf3 := hR9.frozen 3
  have rl := hR9.lt
  have k0 := hGB.cell 0
  have k1 := hGB.cell 1
  have kl := hGB.lt
  simp at r0 r1 r2 r3 k0 k1
  rw [hw9]
  obtain ⟨q8, hq8⟩ : ∃ q, w8.heap.size = q := ⟨_, rfl⟩
  simp only [hq8] at k0 k1 kl ⊢
  obtain ⟨q2, hq2⟩ : ∃ q, w.heap.size + 2 = q := ⟨_, rfl⟩
  have HQ2 := Lib.hid hq2
  simp only [hq2] at r0 r1 r2 r3 rf0 rf1 rf2 rf3 rl ⊢
  clear hoA hoB hsz2 hw9 hb9 hGB hB9 hR9 hs1 hs2 hcc hb8 hq8 hq2
  go_wp2_with fail
  have hge : w.heap.size ≤ q2 := by have := HQ2.out; omega
  have HRB9 : Blk w9 q2 45 #[.int .i64 0, .slice none 0 0, .slice none 0 0, .int .i64 0] := by rw [← HQ2.out]; exact HRX.out
  have h2 := (((HRB9.set_ 0 (.int .i64 b.g.n)).set_ 1 (.slice LA b.g.ls.length cA)).set_ 2 (.slice LB b.last.length cB)).set_ 3 (.int .i64 b.e)
  have hBB := (((HHB.out.setCell (p := ⟨q2, 0, none⟩) hge (.int .i64 b.g.n)).setCell (p := ⟨q2, 1, none⟩) hge (.slice LA b.g.ls.length cA)).setCell (p := ⟨q2, 2, none⟩) hge (.slice LB b.last.length cB)).setCell (p := ⟨q2, 3, none⟩) hge (.int .i64 b.e)
  have hA2 : ∀ a, LA = some a → a.block ≠ q2 := by rw [← HQ2.out]; exact HOA.out.1
  have hB2 : ∀ a, LB = some a → a.block ≠ q2 := by rw [← HQ2.out]; exact HOA.out.2
  refine ret_cell (by simpa using h2) rfl rfl Try.underlying45 rfl (by kernel_rfl) rfl ?_
  refine ⟨LA, LB, cA, cB, rfl, ?_, ?_, HCC.out, hBB, fun a h => Nat.le_trans HB2.out.size (HOW.out.1 a h), fun a h => Nat.le_trans HB2.out.size (HOW.out.2 a h)⟩
  · exact (((HS9.out.1.away (fun _ _ _ _ h => h) hA2 _).away (fun _ _ _ _ h => h) hA2 _).away (fun _ _ _ _ h => h) hA2 _).away (fun _ _ _ _ h => h) hA2 _
  · exact (((HS9.out.2.away (fun _ _ _ _ h => h) hB2 _).away (fun _ _ _ _ h => h) hB2 _).away (fun _ _ _ _ h => h) hB2 _).away (fun _ _ _ _ h => h) hB2 _
end Go.Proofs.Ytfjkmgjjifhdkaa

/-
  Layer 20: boxes of lattices and of what Build answers; rows that calls gave back. No conditions.
-/
namespace Go.Proofs.Ytfjkmgjjifhdkaa
open Go Go.RowKit

theorem SlR.blkLt {α : Type} {s : Nat} {R : World → α → List Value → Prop} {w : World} {A : Option Addr} {xs : List α} (h : SlR s R w A xs) : xs ≠ [] → ∀ a, A = some a → a.block < w.heap.size := fun hn a ha => by
  obtain ⟨b, off, hA, hlt, _⟩ := h hn
  rw [hA] at ha
  rw [← Option.some.inj ha]
  exact hlt
theorem SlR.awayG {α : Type} {s : Nat} {R : World → α → List Value → Prop} {w : World} {A : Option Addr} {xs : List α} (h : SlR s R w A xs) (hR : ∀ w w' x vs, R w x vs → R w' x vs) {p : Addr} (hp : ∀ a, A = some a → xs ≠ [] → a.block ≠ p.block) (u : Value) : SlR s R (w.setCell p u) A xs := fun hn =>
  (SlR.away (p := p) hR (fun _ => h hn) (fun a ha => hp a ha hn) u) hn
theorem lk_any : ∀ (w w' : World) (x : Lk) (vs : List Value), RLk w x vs → RLk w' x vs := fun _ _ _ _ h => h
theorem int_any_ : ∀ (w w' : World) (x : Int) (vs : List Value), RInt w x vs → RInt w' x vs := fun _ _ _ _ h => h
/-- A box with a lattice. -/
structure LB (x : La) (g : Nat) (A : Option Addr) (c : Nat) (W : World) : Prop where
  b : Blk W g 38 #[.int .i64 x.n, .slice A x.es.length c]
  s : SlR 4 REd W A x.es
  k : x.es.length ≤ c ∧ c ≤ maxLen
theorem LB.below {x : La} {g : Nat} {A : Option Addr} {c : Nat} {W W' : World} (h : LB x g A c W) (hb : Below W.heap.size W W') : LB x g A c W' := ⟨h.b.below hb h.b.lt, h.s.below keeps_ed hb, h.k⟩
/-- A box with what Build answered. -/
structure BB (v : Bu) (g : Nat) (LA LB : Option Addr) (cA cB : Nat) (W : World) : Prop where
  b : Blk W g 45 #[.int .i64 v.g.n, .slice LA v.g.ls.length cA, .slice LB v.last.length cB, .int .i64 v.e]
  g : SlR 4 RLk W LA v.g.ls
  l : SlR 1 RInt W LB v.last
  k : v.g.ls.length ≤ cA ∧ cA ≤ maxLen
theorem BB.below {v : Bu} {g : Nat} {LA LB : Option Addr} {cA cB : Nat} {W W' : World} (h : BB v g LA LB cA cB W) (hb : Below W.heap.size W W') : BB v g LA LB cA cB W' := ⟨h.b.below hb h.b.lt, h.g.below keeps_lk hb, h.l.below keeps_int hb, h.k⟩
theorem flat_one : ∀ (l : List Int), l.flatMap (fun x => [Value.int .i64 x]) = l.map (Value.int .i64)
  | [] => rfl
  | a :: l => by rw [List.flatMap_cons, List.map_cons, flat_one l]; rfl
/-- A literal row of numbers. -/
theorem row_ints (w : World) (l : List Int) (hl : l.length ≤ 65536) : SlR 1 RInt (w.alloc (.cells (l.map (Value.int .i64)).toArray 3)) (some ⟨w.heap.size, 0, none⟩) l :=
  slr_of_blk (s := 1) (R := RInt) (enc := fun x => [Value.int .i64 x]) (xs := l) (t := 3) (by rw [flat_one]; exact Blk.new _ _ _) (fun _ => rfl) (fun _ => rfl) hl
end Go.Proofs.Ytfjkmgjjifhdkaa
