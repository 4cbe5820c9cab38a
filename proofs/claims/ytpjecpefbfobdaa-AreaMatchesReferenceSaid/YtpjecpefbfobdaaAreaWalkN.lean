/-
  The walks of layer 21: the fixed examples that each law evaluates first.
-/
import Derived.Test.YtpjecpefbfobdaaAreaWalkH
import Derived.Test.YtpjecpefbfobdaaAreaWalkJ
import Derived.Test.YtpjecpefbfobdaaAreaWalkM
namespace Go.Proofs.Ytpjecpefbfobdaa
open Go Go.RowKit

def twoA : List Ar := [⟨97, 0, 0, 9, 9⟩, ⟨98, 10, 0, 19, 9⟩]
def encA (a : Ar) : List Value := [.int .u8 a.key, .int .i64 a.x0, .int .i64 a.y0, .int .i64 a.x1, .int .i64 a.y1]
/-- A block that holds a list's cells reads as the list. -/
theorem slr_blk {α : Type} {s : Nat} {R : World → α → List Value → Prop} {enc : α → List Value} {w : World} {g : Nat} {t : TypeId} {xs : List α} (h : Blk w g t (xs.flatMap enc).toArray) (hl : ∀ x, (enc x).length = s) (hR : ∀ x, R w x (enc x)) :
    SlR s R w (some ⟨g, 0, none⟩) xs := fun _ => by
  refine ⟨g, 0, rfl, h.lt, fun k x hx => ⟨enc x, hR x, hl x, fun j v hj => ?_⟩⟩
  rw [Nat.zero_add, h.cell]
  have key : ∀ (l : List α) (k : Nat), l[k]? = some x → (l.flatMap enc)[k * s + j]? = some v := by
    intro l
    induction l with
    | nil => intro k h; simp at h
    | cons y l ih =>
      intro k hk
      cases k with
      | zero =>
        simp at hk; subst hk
        rw [List.flatMap_cons, Nat.zero_mul, Nat.zero_add, List.getElem?_append_left (List.getElem?_eq_some_iff.1 hj).1]
        exact hj
      | succ k =>
        rw [List.flatMap_cons, List.getElem?_append_right (by rw [hl, Nat.succ_mul]; omega), hl, show (k + 1) * s + j - s = k * s + j by rw [Nat.succ_mul]; omega]
        exact ih k (by simpa using hk)
  simpa using key xs k hx
theorem two_any (w : World) : Calls Try.prog 30 #[] w fun e w' => ∃ g, e = .returned (.agg #[.slice (some ⟨g, 0, none⟩) 2 2, .slice none 0 0, .slice none 0 0]) ∧ SlR 5 RAr w' (some ⟨g, 0, none⟩) twoA ∧ Below w.heap.size w w' := by
  go_enter Try.func30, Try.ntmps30
  go_wp2
  go_returns
  refine ⟨w.heap.size + 1, rfl, ?_, nw _ (nw _ (Below.refl _ _))⟩
  exact slr_blk (enc := encA) (t := 57) (Blk.new_ (by simp)) (fun _ => rfl) (fun _ => rfl)
theorem same_cho (xs : List Cho) (A : Option Addr) (c : Nat) (W : World) (hx : SlR 2 RCho W A xs) (hl : xs.length ≤ 65536) :
    Calls Try.prog 19 #[.slice A xs.length c, .slice (some ⟨W.heap.size, 0, none⟩) xs.length xs.length] (W.alloc (.cells (xs.flatMap encCho).toArray 67)) fun e w' => e = .returned (.bool true) ∧ Below W.heap.size W w' :=
  (sameSlot_any A (some ⟨W.heap.size, 0, none⟩) xs xs c xs.length _ (hx.below keeps_cho (nw _ (Below.refl _ _))) (slr_blk (enc := encCho) (Blk.new _ _ _) (fun _ => rfl) (fun _ => rfl)) hl).mono fun e w' ⟨h, hb⟩ => ⟨by rw [h]; simp, unbox (bx hb)⟩
theorem same_tap (xs : List Tp) (A : Option Addr) (c : Nat) (W : World) (hx : SlR 4 RTp W A xs) (hl : xs.length ≤ 65536) :
    Calls Try.prog 20 #[.slice A xs.length c, .slice (some ⟨W.heap.size, 0, none⟩) xs.length xs.length] (W.alloc (.cells (xs.flatMap encT).toArray 82)) fun e w' => e = .returned (.bool true) ∧ Below W.heap.size W w' :=
  (sameTaps_any A (some ⟨W.heap.size, 0, none⟩) xs xs c xs.length _ (hx.below keeps_tp (nw _ (Below.refl _ _))) (slr_blk (enc := encT) (Blk.new _ _ _) (fun _ => rfl) (fun _ => rfl)) hl).mono fun e w' ⟨h, hb⟩ => ⟨by rw [h]; simp, unbox (bx hb)⟩
theorem twoA_ok : (∀ a ∈ twoA, ArOK a) ∧ IncA twoA := by
  refine ⟨fun a ha => ?_, by unfold IncA twoA; simp⟩
  simp [twoA] at ha
  rcases ha with rfl | rfl
  all_goals exact ⟨by unfold Small; decide, by unfold Small; decide, by unfold Small; decide, by unfold Small; decide⟩
theorem want2 : touchOf twoA [] ⟨4, 4⟩ = ([⟨97, 0⟩, ⟨98, 2⟩], 0) := by decide
theorem want3 : touchOf twoA [] ⟨30, 5⟩ = ([⟨97, 27⟩, ⟨98, 7⟩], 0) := by decide
theorem want4 : touchOf twoA [] ⟨1001, 0⟩ = ([], 1) := by decide
theorem want5 : touchOf twoA [] ⟨1000, 1000⟩ = ([], 210) := by decide
theorem want6 : adaptOf twoA [] 97 ⟨7, 2⟩ = ([⟨97, 3, -2, 1⟩], 0) := by decide
theorem want7 : adaptOf twoA [] 99 ⟨7, 2⟩ = ([], 210) := by decide
theorem want8 : areasB twoA = true := by decide
theorem want9 : areasB [⟨97, 0, 0, 9, 0⟩, ⟨98, 9, 0, 12, 0⟩] = false := by decide
end Go.Proofs.Ytpjecpefbfobdaa
