/-
  The walks of layer 21: points, prices, shifts.
-/
import Derived.Test.YtpjecpefbfobdaaAreaWalkA
import Derived.Handy
namespace Go.Proofs.Ytpjecpefbfobdaa
open Go Go.RowKit

abbrev vAr (a : Ar) : Value := .agg #[.int .u8 a.key, .int .i64 a.x0, .int .i64 a.y0, .int .i64 a.x1, .int .i64 a.y1]
abbrev vTp (t : Tp) : Value := .agg #[.int .u8 t.key, .int .i64 t.dx, .int .i64 t.dy, .int .i64 t.n]
abbrev vCho (c : Cho) : Value := .agg #[.int .u8 c.key, .int .i64 c.cost]
abbrev vPt (p : Pt) : Value := .agg #[.int .i64 p.x, .int .i64 p.y]
def RAr (_ : World) (x : Ar) (vs : List Value) : Prop := vs = [.int .u8 x.key, .int .i64 x.x0, .int .i64 x.y0, .int .i64 x.x1, .int .i64 x.y1]
def RTp (_ : World) (x : Tp) (vs : List Value) : Prop := vs = [.int .u8 x.key, .int .i64 x.dx, .int .i64 x.dy, .int .i64 x.n]
def RCho (_ : World) (x : Cho) (vs : List Value) : Prop := vs = [.int .u8 x.key, .int .i64 x.cost]
def RPt (_ : World) (x : Pt) (vs : List Value) : Prop := vs = [.int .i64 x.x, .int .i64 x.y]
theorem keeps_ar : Keeps RAr := fun _ _ _ _ _ h => h
theorem keeps_tp : Keeps RTp := fun _ _ _ _ _ h => h
theorem keeps_cho : Keeps RCho := fun _ _ _ _ _ h => h
theorem keeps_pt : Keeps RPt := fun _ _ _ _ _ h => h
section
variable {w : World} {A : Option Addr} {k : Nat}
theorem SlR.ar {xs : List Ar} (h : SlR 5 RAr w A xs) (hk : k < xs.length) : ∃ b off x, A = some ⟨b, off, none⟩ ∧ b < w.heap.size ∧ xs[k]? = some x ∧
    w.cell? ⟨b, off + k * 5, none⟩ = some (.int .u8 x.key) ∧ w.cell? ⟨b, off + k * 5 + 1, none⟩ = some (.int .i64 x.x0) ∧ w.cell? ⟨b, off + k * 5 + 2, none⟩ = some (.int .i64 x.y0) ∧
    w.cell? ⟨b, off + k * 5 + 3, none⟩ = some (.int .i64 x.x1) ∧ w.cell? ⟨b, off + k * 5 + 4, none⟩ = some (.int .i64 x.y1) := by
  obtain ⟨b, off, x, vs, hA, hlt, hx, hr, _, hv⟩ := h.at_ hk
  exact ⟨b, off, x, hA, hlt, hx, hv 0 _ (by rw [hr]; rfl), hv 1 _ (by rw [hr]; rfl), hv 2 _ (by rw [hr]; rfl), hv 3 _ (by rw [hr]; rfl), hv 4 _ (by rw [hr]; rfl)⟩
theorem SlR.tp {xs : List Tp} (h : SlR 4 RTp w A xs) (hk : k < xs.length) : ∃ b off x, A = some ⟨b, off, none⟩ ∧ b < w.heap.size ∧ xs[k]? = some x ∧
    w.cell? ⟨b, off + k * 4, none⟩ = some (.int .u8 x.key) ∧ w.cell? ⟨b, off + k * 4 + 1, none⟩ = some (.int .i64 x.dx) ∧ w.cell? ⟨b, off + k * 4 + 2, none⟩ = some (.int .i64 x.dy) ∧
    w.cell? ⟨b, off + k * 4 + 3, none⟩ = some (.int .i64 x.n) := by
  obtain ⟨b, off, x, vs, hA, hlt, hx, hr, _, hv⟩ := h.at_ hk
  exact ⟨b, off, x, hA, hlt, hx, hv 0 _ (by rw [hr]; rfl), hv 1 _ (by rw [hr]; rfl), hv 2 _ (by rw [hr]; rfl), hv 3 _ (by rw [hr]; rfl)⟩
theorem SlR.cho {xs : List Cho} (h : SlR 2 RCho w A xs) (hk : k < xs.length) : ∃ b off x, A = some ⟨b, off, none⟩ ∧ b < w.heap.size ∧ xs[k]? = some x ∧
    w.cell? ⟨b, off + k * 2, none⟩ = some (.int .u8 x.key) ∧ w.cell? ⟨b, off + k * 2 + 1, none⟩ = some (.int .i64 x.cost) := by
  obtain ⟨b, off, x, vs, hA, hlt, hx, hr, _, hv⟩ := h.at_ hk
  exact ⟨b, off, x, hA, hlt, hx, hv 0 _ (by rw [hr]; rfl), hv 1 _ (by rw [hr]; rfl)⟩
theorem SlR.pt {xs : List Pt} (h : SlR 2 RPt w A xs) (hk : k < xs.length) : ∃ b off x, A = some ⟨b, off, none⟩ ∧ b < w.heap.size ∧ xs[k]? = some x ∧
    w.cell? ⟨b, off + k * 2, none⟩ = some (.int .i64 x.x) ∧ w.cell? ⟨b, off + k * 2 + 1, none⟩ = some (.int .i64 x.y) := by
  obtain ⟨b, off, x, vs, hA, hlt, hx, hr, _, hv⟩ := h.at_ hk
  exact ⟨b, off, x, hA, hlt, hx, hv 0 _ (by rw [hr]; rfl), hv 1 _ (by rw [hr]; rfl)⟩
end
theorem nw {w W : World} (o : Obj) (h : Below w.heap.size w W) : Below w.heap.size w (W.alloc o) := h.alloc h.size o

theorem point_any (x y : Int) (w : World) : Calls Try.prog 14 #[.int .i64 x, .int .i64 y] w fun e w' => e = .returned (vPt ⟨x, y⟩) ∧ Below w.heap.size w w' := by
  go_enter Try.func14, Try.ntmps14
  go_wp2
  go_returns
  exact ⟨rfl, nw _ (Below.refl _ _)⟩

theorem middle_any (a : Ar) (w : World) (ha : ArOK a) : Calls Try.prog 46 #[vAr a] w fun e w' => e = .returned (vPt (midOf a)) ∧ Below w.heap.size w w' := by
  obtain ⟨h1, h2, h3, h4⟩ := ha
  unfold Small at h1 h2 h3 h4
  go_enter Try.func46, Try.ntmps46
  go_wp2
  go_returns
  exact ⟨rfl, nw _ (nw _ (Below.refl _ _))⟩
theorem inside_any (p : Pt) (w : World) : Calls Try.prog 38 #[vPt p] w fun e w' => e = .returned (.bool (insideB p)) ∧ Below w.heap.size w w' := by
  unfold insideB coordB
  have hc : p.x < 0 ∨ (0 ≤ p.x ∧ 1000 < p.x) ∨ ((0 ≤ p.x ∧ p.x ≤ 1000) ∧ p.y < 0) ∨ ((0 ≤ p.x ∧ p.x ≤ 1000) ∧ (0 ≤ p.y ∧ 1000 < p.y)) ∨ ((0 ≤ p.x ∧ p.x ≤ 1000) ∧ (0 ≤ p.y ∧ p.y ≤ 1000)) := by omega
  rcases hc with h | ⟨h, h'⟩ | ⟨⟨h, h'⟩, h''⟩ | ⟨⟨h, h'⟩, h'', h'''⟩ | ⟨⟨h, h'⟩, h'', h'''⟩
  all_goals
    go_enter Try.func38, Try.ntmps38
    go_wp2
    go_ret
    exact ⟨ret_bool (Bool.eq_iff_iff.2 (by simp; omega)), nw _ (Below.refl _ _)⟩
theorem price_any (a : Ar) (s p : Pt) (w : World) (ha : ArOK a) (hs : PtOK s) (hp : PtOK p) : Calls Try.prog 32 #[vAr a, vPt s, vPt p] w fun e w' => e = .returned (.int .i64 (priceOf a s p)) ∧ Below w.heap.size w w' := by
  obtain ⟨h1, h2, h3, h4⟩ := ha
  obtain ⟨s1, s2⟩ := hs
  obtain ⟨p1, p2⟩ := hp
  unfold Small at s1 s2 p1 p2
  have bx := bey_bd (v := p.x - s.x) (by omega) h1 h3
  have by_ := bey_bd (v := p.y - s.y) (by omega) h2 h4
  unfold Small at h1 h2 h3 h4
  unfold priceOf
  obtain ⟨dx, hdx⟩ : ∃ d, bey (p.x - s.x) a.x0 a.x1 = d := ⟨_, rfl⟩
  obtain ⟨dy, hdy⟩ : ∃ d, bey (p.y - s.y) a.y0 a.y1 = d := ⟨_, rfl⟩
  rw [hdx] at bx
  rw [hdy] at by_
  rw [hdx, hdy]
  have HX := Lib.hid hdx
  have HY := Lib.hid hdy
  clear hdx hdy
  have sx := sq_bd bx.1 bx.2
  have sy := sq_bd by_.1 by_.2
  go_enter Try.func32, Try.ntmps32
  go_wp2_with (go_at_call 55; refine (beyond_any _ _ _ _ (by omega) (by unfold Small; omega) (by unfold Small; omega)).mono ?_; rintro e w' ⟨rfl, rfl⟩; first | rw [HX.out] | rw [HY.out])
  go_ret
  exact ⟨rfl, nw _ (nw _ (nw _ (Below.refl _ _)))⟩
end Go.Proofs.Ytpjecpefbfobdaa
