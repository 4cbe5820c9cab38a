/-
  Bounds of the reference's ways; rows beside rows that grow.
-/
import Derived.Test.YtbikjmafddndpaaBase
import Derived.Test.YtbikjmafddndpaaGrMc
namespace Go.Proofs.Ytbikjmafddndpaa
open Go Go.RowKit

theorem addW_len (g : Gr) {most : Nat} {rest out : List Can} {i : Int} (h : out.length ≤ most) : (addW g most rest out i).length ≤ most := by
  unfold addW
  rw [List.length_append, List.length_map, List.length_take]
  omega
theorem foldW_len (g : Gr) {most : Nat} (F : Int → List Can) : ∀ (L : List Int) (out : List Can), out.length ≤ most → (L.foldl (fun out i => addW g most (F i) out i) out).length ≤ most := by
  intro L
  induction L with
  | nil => intro out h; exact h
  | cons i L ih => intro out h; exact ih _ (addW_len g h)
/-- What is true of each way. -/
def WB (f : Nat) (c : Can) : Prop := c.links.length ≤ f ∧ 0 ≤ c.cost ∧ c.cost ≤ 1000000 * (f : Int)
theorem addW_bd {g : Gr} (hg : GrOK g) {f most : Nat} {rest out : List Can} {i : Int} (hi : 0 ≤ i ∧ i < g.ls.length) (hr : ∀ c ∈ rest, WB f c) (ho : ∀ c ∈ out, WB (f + 1) c) : ∀ c ∈ addW g most rest out i, WB (f + 1) c := fun c hc => by
  unfold addW at hc
  rcases List.mem_append.1 hc with hc | hc
  · exact ho c hc
  · obtain ⟨r, hr1, rfl⟩ := List.mem_map.1 hc
    obtain ⟨h1, h2, h3⟩ := hr r (List.mem_of_mem_take hr1)
    have h4 := (lkAt_ok hg hi).cost
    refine ⟨?_, ?_, ?_⟩
    · show r.links.length + 1 ≤ f + 1; omega
    · show 0 ≤ r.cost + (lkAt g i).cost; omega
    · show r.cost + (lkAt g i).cost ≤ 1000000 * ((f + 1 : Nat) : Int); omega
theorem waysM_bd {g : Gr} (hg : GrOK g) (most : Nat) : ∀ (f : Nat) (v : Int), ∀ c ∈ waysM g most f v, WB f c
  | 0, v => fun c hc => by cases hc
  | f + 1, v => fun c hc => by
    unfold waysM at hc
    split at hc
    · obtain rfl := List.mem_singleton.1 hc
      exact ⟨Nat.zero_le _, Int.le_refl _, by show (0 : Int) ≤ _; omega⟩
    · have key : ∀ (L : List Int) (out : List Can), (∀ i ∈ L, 0 ≤ i ∧ i < g.ls.length) → (∀ c ∈ out, WB (f + 1) c) → ∀ c ∈ L.foldl (fun out i => addW g most (waysM g most f (lkAt g i).to) out i) out, WB (f + 1) c := by
        intro L
        induction L with
        | nil => intro out _ h; exact h
        | cons i L ih => intro out hL h; exact ih _ (fun j hj => hL j (by simp [hj])) (addW_bd hg (hL i (by simp)) (waysM_bd hg most f _) h)
      exact key _ [] (fun i hi => by have := lvs_iff.1 hi; omega) (fun c h => by cases h) c hc
theorem waysM_len (g : Gr) {most : Nat} (hm : 1 ≤ most) : ∀ (f : Nat) (v : Int), (waysM g most f v).length ≤ most
  | 0, v => Nat.zero_le _
  | f + 1, v => by
    unfold waysM
    split
    · exact hm
    · exact foldW_len g (fun i => waysM g most f (lkAt g i).to) _ [] (Nat.zero_le _)
/-- The candidates that a loop over the links has collected. -/
def wayTo (g : Gr) (most f : Nat) (v : Int) (j : Nat) : List Can := (lvTo g.ls v j).foldl (fun out i => addW g most (waysM g most f (lkAt g i).to) out i) []
theorem wayTo_step {g : Gr} {most f : Nat} {v : Int} {j : Nat} {l : Lk} (h : g.ls[j]? = some l) : wayTo g most f v (j + 1) = if l.fr = v then addW g most (waysM g most f l.to) (wayTo g most f v j) (j : Int) else wayTo g most f v j := by
  unfold wayTo
  rw [lvTo_succ h]
  split
  · rw [List.foldl_append]
    show addW g most (waysM g most f (lkAt g (j : Int)).to) _ _ = _
    have : lkAt g (j : Int) = l := by unfold lkAt; rw [Int.toNat_natCast, List.getD_eq_getElem?_getD, h]; rfl
    rw [this]
  · rfl
theorem wayTo_len (g : Gr) {most f : Nat} {v : Int} {j : Nat} : (wayTo g most f v j).length ≤ most := foldW_len g (fun i => waysM g most f (lkAt g i).to) _ [] (Nat.zero_le _)
theorem wayTo_all {g : Gr} {most f : Nat} {v : Int} (hv : ¬ v = g.n - 1) : waysM g most (f + 1) v = wayTo g most f v g.ls.length := by
  conv => lhs; unfold waysM
  rw [if_neg hv]
  rfl
theorem wayLast {g : Gr} {most f : Nat} {v : Int} (hv : v = g.n - 1) : waysM g most (f + 1) v = [⟨[], 0⟩] := by
  conv => lhs; unfold waysM
  rw [if_pos hv]
/-- A row beside one that grows. -/
theorem own_beside {w w' : World} {base n s : Nat} {e : TypeId} {vr v v' : Value} {xs : List Value} (h : w.ownsRow base e s vr n xs) (hne : ∀ g, vr.ownBlock = some g → v.ownBlock ≠ some g) (ha : Apps w w' v v') :
    w'.ownsRow base e s vr n xs ∧ ∀ g, vr.ownBlock = some g → v'.ownBlock ≠ some g := by
  refine ⟨own_keep h fun g hg hlt => ha.keep g hlt (hne g hg), fun g hg => ?_⟩
  have hlt : g < w.heap.size := by
    rcases Nat.lt_or_ge g w.heap.size with h1 | h1
    · exact h1
    · exact absurd hg (own_lt h h1)
  exact ha.ne hlt (hne g hg)
section
variable {P : Program} {ops : Array Oper} {Q : Exit → Act → World → Prop}
/-- 'append(out, xs...)' outside regions that draw. -/
theorem wpList_appS {rest : List Oper} {α : Type} {enc : α → List Value} {R : World → α → List Value → Prop} {o : Oper} {a : Act} {w : World} (hgd : o.guard = none) (s x : Operand) (t : TypeId)
    (ho : o.op = .call { callee := .builtin .append, args := #[s, x], argTypes := #[t, t] })
    (base : Nat) (e : TypeId) (i : TypeInfo) (z : Value) (size bytes : Nat) (ht : P.underlying t = some (.slice e)) (hi : P.info? e = some i) (hz : i.zero = some z)
    (hsize : i.size = size) (hby : i.bytes = bytes) (hzs : z.cells.size = size) (hsz : 0 < size)
    (v : Value) (n : Nat) (xs : List Value) (hs : a.eval s = v) (hown : w.ownsRow base e size v n xs)
    (A : Option Addr) (c : Nat) (ys : List α) (hx : a.eval x = .slice A ys.length c) (hr : SlR size R w A ys) (hR : ∀ w x vs, R w x vs → vs = enc x) (hl : ∀ x, (enc x).length = size) (h1 : ∀ u ∈ ys.flatMap enc, u.oneCell' = true)
    (hn : n + ys.length ≤ 1000000) (hbb : bytes ≤ 1000) (hbase : base ≤ w.heap.size)
    (h : ∀ v' w', w'.ownsRow base e size v' (n + ys.length) (xs ++ ys.flatMap enc) → Below base w w' → Apps w w' v v' → wpList P ops Q rest (a.put o.dst v') w') : wpList P ops Q (o :: rest) a w :=
  wpList_plain hgd fun K hK => wp_appS (K := K) s x t ho base e i z size bytes ht hi hz hsize hby hzs hsz v n xs hs hown A c ys hx hr hR hl h1 hn hbb hbase (fun v' w' h1 h2 h3 => hK _ _ (h v' w' h1 h2 h3))
end
end Go.Proofs.Ytbikjmafddndpaa
