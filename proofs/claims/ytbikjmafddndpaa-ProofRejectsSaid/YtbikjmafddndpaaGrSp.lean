/-
  Words for memory of spoilt: candidates whose links lie in rows of the call's own, apart from each other.
-/
import Derived.Test.YtbikjmafddndpaaGrMc
import Derived.Test.YtbikjmafddndpaaBase
namespace Go.Proofs.Ytbikjmafddndpaa
open Go Go.RowKit

/-- The slice of a candidate's links. -/
def lnk (m : MC) : Value := .slice m.A m.x.links.length m.c
structure OwnL (base : Nat) (w : World) (ms : List MC) : Prop where
  own : ∀ m ∈ ms, w.ownsRow base 3 1 (lnk m) m.x.links.length (m.x.links.map (Value.int .i64))
  apart : ms.Pairwise fun m m' => ∀ g, (lnk m).ownBlock = some g → (lnk m').ownBlock ≠ some g
section
variable {w w' : World} {base : Nat} {ms : List MC}
theorem OwnL.nil : OwnL base w [] := ⟨(fun _ h => (List.not_mem_nil h).elim), List.Pairwise.nil⟩
theorem OwnL.ok (h : OwnL base w ms) : MsOK w ms := fun m hm => by
  obtain ⟨B, cap, he, h1, h2, h3⟩ := own_slt (h.own m hm) rfl
  unfold lnk at he
  injection he with e1 e2 e3
  subst e1
  subst e3
  exact ⟨h3, h1, h2⟩
theorem OwnL.apps {base' : Nat} {e : TypeId} {s n : Nat} {v v' : Value} {ys : List Value} (h : OwnL base w ms) (ho : w.ownsRow base' e s v n ys) (hne : 3 ≠ e) (ha : Apps w w' v v') : OwnL base w' ms :=
  ⟨fun m hm => own_apps (h.own m hm) ho hne ha, h.apart⟩
theorem OwnL.set_ {p : Addr} {t : TypeId} {cs' : Array Value} (h : OwnL base w ms) (hp : Blk w p.block t cs') (hne : 3 ≠ t) (u : Value) : OwnL base (w.setCell p u) ms :=
  ⟨fun m hm => own_set (h.own m hm) (own_blk_ne (h.own m hm) hp hne) u, h.apart⟩
theorem OwnL.below (h : OwnL base w ms) (hb : Below w.heap.size w w') : OwnL base w' ms := ⟨fun m hm => own_below (h.own m hm) hb, h.apart⟩
theorem OwnL.snoc {m : MC} (h : OwnL base w ms) (ho : w.ownsRow base 3 1 (lnk m) m.x.links.length (m.x.links.map (Value.int .i64))) (hf : ∀ m' ∈ ms, ∀ g, (lnk m').ownBlock = some g → (lnk m).ownBlock ≠ some g) : OwnL base w (ms ++ [m]) :=
  ⟨fun x hx => (List.mem_append.1 hx).elim (h.own x) (fun e => by rw [List.mem_singleton.1 e]; exact ho), List.pairwise_append.2 ⟨h.apart, List.pairwise_singleton _ _, fun a ha b hb => by rw [List.mem_singleton.1 hb]; exact hf a ha⟩⟩
end
end Go.Proofs.Ytbikjmafddndpaa
