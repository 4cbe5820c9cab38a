/-
  Layer 20: an edge of a row of the call's own turned into another one; indices of links that Build answers. No conditions.
-/
import Derived.Test.YtcimnkijpifkjaaQ32
namespace Go.Proofs.Ytcimnkijpifkjaa
open Go Go.RowKit

theorem cx_slr_take {α : Type} {s : Nat} {R : World → α → List Value → Prop} {w : World} {A : Option Addr} {xs : List α} (h : SlR s R w A xs) (k : Nat) : SlR s R w A (xs.take k) := fun hn => by
  obtain ⟨b, off, hA, hb, hc⟩ := h (by rintro rfl; simp at hn)
  refine ⟨b, off, hA, hb, fun i x hi => hc i x ?_⟩
  rw [List.getElem?_take] at hi
  split at hi
  · exact hi
  · cases hi
theorem flat_getE : ∀ (l : List Ed) (k : Nat) (x : Ed), l[k]? = some x → ∀ j, j < 4 → (l.flatMap encEd)[k * 4 + j]? = (encEd x)[j]?
  | [], k, x, h, _, _ => by simp at h
  | a :: l, 0, x, h, j, hj => by
    have : a = x := Option.some.inj h
    subst this
    rw [List.flatMap_cons, List.getElem?_append_left (by show 0 * 4 + j < 4; omega), Nat.zero_mul, Nat.zero_add]
  | a :: l, k + 1, x, h, j, hj => by
    have ih := flat_getE l k x (by simpa using h) j hj
    rw [List.flatMap_cons, List.getElem?_append_right (by show 4 ≤ (k + 1) * 4 + j; omega)]
    show (l.flatMap encEd)[(k + 1) * 4 + j - 4]? = _
    rw [show (k + 1) * 4 + j - 4 = k * 4 + j by omega]
    exact ih
theorem flat_setE {u : Int} : ∀ (l : List Ed) (k : Nat) (x : Ed), l[k]? = some x → (l.flatMap encEd).set (k * 4 + 2) (.int .i64 u) = (l.set k ⟨x.fr, x.to, u, x.co⟩).flatMap encEd
  | [], k, x, h => by simp at h
  | a :: l, 0, x, h => by
    have : a = x := Option.some.inj h
    subst this
    simp [encEd]
  | a :: l, k + 1, x, h => by
    have ih := flat_setE (u := u) l k x (by simpa using h)
    rw [List.flatMap_cons, List.set_cons_succ, List.flatMap_cons, ← ih]
    rw [List.set_append, if_neg (by show ¬ (k + 1) * 4 + 2 < 4; omega)]
    congr 1
    show (l.flatMap encEd).set ((k + 1) * 4 + 2 - 4) _ = _
    rw [show (k + 1) * 4 + 2 - 4 = k * 4 + 2 by omega]
/-- A slice of numbers stays one, whatever number is stored. -/
theorem slr_stored {W : World} {g : Nat} {t : TypeId} {cs : Array Value} (hB : Blk W g t cs) {B : Option Addr} {o : List Int} (h : SlR 1 RInt W B o) (j : Nat) (v : Int) : ∃ o' : List Int, o'.length = o.length ∧ SlR 1 RInt (W.setCell ⟨g, j, none⟩ (.int .i64 v)) B o' := by
  by_cases hn : o = []
  · exact ⟨[], by rw [hn], SlR.nil⟩
  · obtain ⟨b, off, hA, hb, hc⟩ := h hn
    by_cases hbg : b = g
    · subst hbg
      have hB' := hB.set_ j (.int .i64 v)
      have hall : ∀ i, i < o.length → ∃ x : Int, (W.setCell ⟨b, j, none⟩ (.int .i64 v)).cell? ⟨b, off + i * 1 + 0, none⟩ = some (.int .i64 x) := fun i hi => by
        obtain ⟨vs, hr, hl, hv⟩ := hc i _ (List.getElem?_eq_getElem hi)
        have h1 := hv 0 _ (by rw [hr]; rfl)
        rw [hB.cell] at h1
        rw [hB'.cell]
        have hlt : off + i * 1 + 0 < cs.size := (Array.getElem?_eq_some_iff.1 h1).1
        by_cases hji : j = off + i * 1 + 0
        · exact ⟨v, by rw [hji, Array.getElem?_setIfInBounds_self_of_lt hlt]⟩
        · exact ⟨o[i], by rw [Array.getElem?_setIfInBounds_ne hji]; exact h1⟩
      refine ⟨(List.range o.length).map (fun i => match (W.setCell ⟨b, j, none⟩ (.int .i64 v)).cell? ⟨b, off + i * 1 + 0, none⟩ with | some (.int .i64 x) => x | _ => 0), by simp, fun _ => ?_⟩
      refine ⟨b, off, hA, hB'.lt, fun k x hk => ⟨[.int .i64 x], rfl, rfl, fun i u hi => ?_⟩⟩
      match i, hi with
      | 0, hi =>
        simp at hi
        subst hi
        rw [List.getElem?_map] at hk
        cases hr : (List.range o.length)[k]? with
        | none => rw [hr] at hk; cases hk
        | some i =>
          rw [hr] at hk
          have hki := List.getElem?_eq_some_iff.1 hr
          obtain ⟨hkl, hke⟩ := hki
          simp at hke hkl
          subst hke
          obtain ⟨y, hy⟩ := hall k hkl
          have := Option.some.inj hk
          dsimp only at this
          rw [hy] at this
          rw [hy, ← this]
    · refine ⟨o, rfl, SlR.away (fun _ _ _ _ h => h) h (fun a ha => ?_) _⟩
      rw [hA] at ha
      rw [← Option.some.inj ha]
      exact hbg
theorem buM_e {x : La} {m : Mo} {prev : Int} (h : (buM x m prev).e = 0) : FitsL x m.ws.length ∧ buM x m prev = ⟨grL x m prev, lastL x prev, 0⟩ := by
  unfold buM at h ⊢
  by_cases h1 : MoOK m
  · by_cases h2 : (-1 ≤ prev ∧ prev < (m.ws.length : Int)) ∧ FitsL x m.ws.length
    · rw [if_pos h1, if_pos h2]
      exact ⟨h2.2, rfl⟩
    · rw [if_pos h1, if_neg h2] at h
      cases h
  · rw [if_neg h1] at h
    cases h
theorem buM_len {n : Int} {es : List Ed} (m : Mo) (prev : Int) (h : es.length ≤ 13) : (buM ⟨n, es⟩ m prev).g.ls.length ≤ 65536 ∧ (buM ⟨n, es⟩ m prev).last.length ≤ 65536 := by
  have h1 := nodesL_len ⟨n, es⟩ prev
  have h2 := lksTo_len ⟨n, es⟩ m prev (nodesL ⟨n, es⟩ prev).length
  have h3 : (nodesL ⟨n, es⟩ prev).length * es.length ≤ 15 * 13 := Nat.mul_le_mul (by have : (nodesL ⟨n, es⟩ prev).length ≤ es.length + 2 := h1.2; omega) h
  unfold buM
  split
  · split
    · refine ⟨?_, ?_⟩
      · show (lksTo ⟨n, es⟩ m prev (nodesL ⟨n, es⟩ prev).length).length ≤ 65536
        have h4 : (lksTo ⟨n, es⟩ m prev (nodesL ⟨n, es⟩ prev).length).length ≤ (nodesL ⟨n, es⟩ prev).length * es.length := h2
        omega
      · show (lastL ⟨n, es⟩ prev).length ≤ 65536
        rw [lastL_len]
        have : (nodesL ⟨n, es⟩ prev).length ≤ es.length + 2 := h1.2
        omega
    · exact ⟨Nat.zero_le _, Nat.zero_le _⟩
  · exact ⟨Nat.zero_le _, Nat.zero_le _⟩
theorem buM_lk {x : La} {m : Mo} {prev : Int} (h : (buM x m prev).e = 0) {i : Int} (h0 : 0 ≤ i) (hi : i < ((buM x m prev).g.ls.length : Int)) : LkIn x.es (buM x m prev).g.ls i := by
  rw [(buM_e h).2] at hi ⊢
  have hi' : i.toNat < (lksL x m prev).length := by have : i < ((lksL x m prev).length : Int) := hi; omega
  have h3 := List.getElem?_eq_getElem hi'
  have h4 : (lksL x m prev)[i.toNat] ∈ lksL x m prev := List.getElem_mem hi'
  obtain ⟨i', k, p, e, _, h6, _, h7⟩ := lksL_mem.1 h4
  refine ⟨i.toNat, _, k, e, by omega, h3, ?_, h6⟩
  rw [h7, cx_mkLk_at h6]
end Go.Proofs.Ytcimnkijpifkjaa
