/-
  Words for memory of layers 15 and 16: candidates in rows of the call's own, with the slices of their links.
-/
import Derived.Test.YtbikjmafddndpaaGrWalkJ
import Derived.Test.YtbikjmafddndpaaBase
namespace Go.Proofs.Ytbikjmafddndpaa
open Go Go.RowKit

/-- A slice of numbers in a block of numbers. -/
def SlT (w : World) (A : Option Addr) (xs : List Int) : Prop := xs ≠ [] → ∃ b off cs, A = some ⟨b, off, none⟩ ∧ Blk w b 3 cs ∧ ∀ (k : Nat) (x : Int), xs[k]? = some x → cs[off + k]? = some (.int .i64 x)
section
variable {w w' : World} {A : Option Addr} {xs : List Int}
theorem SlT.nil : SlT w A [] := fun h => absurd rfl h
theorem SlT.slr (h : SlT w A xs) : SlR 1 RInt w A xs := fun hne => by
  obtain ⟨b, off, cs, hA, hb, hc⟩ := h hne
  refine ⟨b, off, hA, hb.lt, fun k x hk => ⟨[.int .i64 x], rfl, rfl, fun j v hj => ?_⟩⟩
  match j, hj with
  | 0, hj =>
    simp at hj
    subst hj
    rw [hb.cell, show off + k * 1 + 0 = off + k by omega]
    exact hc k x hk
theorem SlT.below (h : SlT w A xs) (hb : Below w.heap.size w w') : SlT w' A xs := fun hne => by
  obtain ⟨b, off, cs, hA, hB, hc⟩ := h hne
  exact ⟨b, off, cs, hA, hB.below hb hB.lt, hc⟩
theorem SlT.apps {base : Nat} {e : TypeId} {s n : Nat} {v v' : Value} {ys : List Value} (h : SlT w A xs) (ho : w.ownsRow base e s v n ys) (hne : e ≠ 3) (ha : Apps w w' v v') : SlT w' A xs := fun hn => by
  obtain ⟨b, off, cs, hA, hB, hc⟩ := h hn
  exact ⟨b, off, cs, hA, hB.apps ha (own_blk_ne ho hB hne), hc⟩
theorem SlT.set_ {p : Addr} {t : TypeId} {cs' : Array Value} (h : SlT w A xs) (hp : Blk w p.block t cs') (hne : t ≠ 3) (u : Value) : SlT (w.setCell p u) A xs := fun hn => by
  obtain ⟨b, off, cs, hA, hB, hc⟩ := h hn
  refine ⟨b, off, cs, hA, hB.far (fun e => ?_) u, hc⟩
  unfold Blk at hB hp
  rw [e] at hB
  rw [hB] at hp
  injection hp with hp
  injection hp with _ ht
  exact hne ht.symm
theorem Row.slt {g : Nat} (h : Row w g xs) : SlT w (some ⟨g, 0, none⟩) xs := fun _ => ⟨g, 0, _, rfl, h, fun k x hk => by simp [hk]⟩
theorem SlT.take (h : SlT w A xs) (n : Nat) : SlT w A (xs.take n) := fun hn => by
  obtain ⟨b, off, cs, hA, hB, hc⟩ := h (by rintro rfl; simp at hn)
  refine ⟨b, off, cs, hA, hB, fun k x hk => hc k x ?_⟩
  rw [List.getElem?_take] at hk
  split at hk
  · exact hk
  · cases hk
/-- A row of numbers of the call's own. -/
theorem own_slt {base n : Nat} {v : Value} (h : w.ownsRow base 3 1 v n (xs.map (Value.int .i64))) (hn : n = xs.length) : ∃ B cap, v = .slice B n cap ∧ n ≤ cap ∧ cap ≤ maxLen ∧ SlT w B xs := by
  rcases h.2 with ⟨rfl, h0⟩ | ⟨g, cap, cur, rfl, hg, hh, hnc, hcm, hcs, htk⟩
  · subst h0
    have : xs = [] := List.length_eq_zero_iff.1 hn.symm
    subst this
    exact ⟨none, 0, rfl, Nat.le_refl _, Nat.zero_le _, SlT.nil⟩
  · refine ⟨some ⟨g, 0, none⟩, cap, rfl, hnc, hcm, fun _ => ⟨g, 0, cur, rfl, hh, fun k x hk => ?_⟩⟩
    have h1 : (xs.map (Value.int .i64))[k]? = some (.int .i64 x) := by simp [hk]
    rw [← htk, List.getElem?_take] at h1
    split at h1
    · simpa using h1
    · cases h1
end
/-- A candidate as it lies in memory. -/
structure MC where
  A : Option Addr
  c : Nat
  x : Can
def encMc (m : MC) : List Value := [.slice m.A m.x.links.length m.c, .int .i64 m.x.cost]
def RMc (_ : World) (m : MC) (vs : List Value) : Prop := vs = encMc m
theorem keeps_mc : Keeps RMc := fun _ _ _ _ _ h => h
def MOK (w : World) (m : MC) : Prop := SlT w m.A m.x.links ∧ m.x.links.length ≤ m.c ∧ m.c ≤ maxLen
def MsOK (w : World) (ms : List MC) : Prop := ∀ m ∈ ms, MOK w m
section
variable {w w' : World} {ms : List MC}
theorem MsOK.nil : MsOK w [] := fun _ h => by cases h
theorem MsOK.below (h : MsOK w ms) (hb : Below w.heap.size w w') : MsOK w' ms := fun m hm => ⟨(h m hm).1.below hb, (h m hm).2⟩
theorem MsOK.apps {base : Nat} {e : TypeId} {s n : Nat} {v v' : Value} {ys : List Value} (h : MsOK w ms) (ho : w.ownsRow base e s v n ys) (hne : e ≠ 3) (ha : Apps w w' v v') : MsOK w' ms := fun m hm => ⟨(h m hm).1.apps ho hne ha, (h m hm).2⟩
theorem MsOK.set_ {p : Addr} {t : TypeId} {cs' : Array Value} (h : MsOK w ms) (hp : Blk w p.block t cs') (hne : t ≠ 3) (u : Value) : MsOK (w.setCell p u) ms := fun m hm => ⟨(h m hm).1.set_ hp hne u, (h m hm).2⟩
theorem MsOK.app {ns : List MC} (h : MsOK w ms) (h' : MsOK w ns) : MsOK w (ms ++ ns) := fun m hm => (List.mem_append.1 hm).elim (h m) (h' m)
theorem MsOK.sub {ns : List MC} (h : MsOK w ms) (hs : ∀ m ∈ ns, m ∈ ms) : MsOK w ns := fun m hm => h m (hs m hm)
theorem mc_can {A : Option Addr} (h : SlR 2 RMc w A ms) (ho : MsOK w ms) : SlR 2 RCan w A (ms.map (·.x)) := fun hne => by
  obtain ⟨b, off, hA, hb, hc⟩ := h (by rintro rfl; simp at hne)
  refine ⟨b, off, hA, hb, fun k x hk => ?_⟩
  rw [List.getElem?_map] at hk
  cases hm : ms[k]? with
  | none => rw [hm] at hk; cases hk
  | some m =>
    rw [hm] at hk
    obtain rfl := Option.some.inj hk
    obtain ⟨vs, hr, hl, hv⟩ := hc k m hm
    have hk := ho m (List.mem_of_getElem? hm)
    exact ⟨vs, ⟨m.A, m.c, hr, hk.1.slr, hk.2.1, hk.2.2⟩, hl, hv⟩
theorem SlR.mc {A : Option Addr} (h : SlR 2 RMc w A ms) {k : Nat} (hk : k < ms.length) :
    ∃ b off m, A = some ⟨b, off, none⟩ ∧ b < w.heap.size ∧ ms[k]? = some m ∧ w.cell? ⟨b, off + k * 2, none⟩ = some (.slice m.A m.x.links.length m.c) ∧ w.cell? ⟨b, off + k * 2 + 1, none⟩ = some (.int .i64 m.x.cost) := by
  obtain ⟨b, off, m, vs, hA, hlt, hx, hr, _, hv⟩ := h.at_ hk
  exact ⟨b, off, m, hA, hlt, hx, hv 0 _ (by rw [hr]; rfl), hv 1 _ (by rw [hr]; rfl)⟩
end
end Go.Proofs.Ytbikjmafddndpaa
