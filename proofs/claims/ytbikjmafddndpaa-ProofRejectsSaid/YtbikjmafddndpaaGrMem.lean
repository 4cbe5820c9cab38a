/-
  Words for memory of layers 15 and 16: rows of whole numbers made at once, read and written one by one.
-/
import Derived.Test.YtbikjmafddndpaaGrWalkA
import Derived.OwnWalk
namespace Go.Proofs.Ytbikjmafddndpaa
open Go Go.RowKit

theorem made_one (u : Value) (n : Nat) : madeCells #[u] n = (List.replicate n u).toArray := by
  unfold madeCells
  apply Array.ext
  · simp
  · intro i h1 h2
    simp [Nat.mod_one]
/-- 'make([]T, n)' of elements of one cell: the world is known. -/
theorem wpList_mk {P : Program} (w : World) {ops : Array Oper} {rest : List Oper} {o : Oper} {a : Act} {Q : Exit → Act → World → Prop}
    (hg : o.guard = none) (l c : Operand) (t : TypeId) (hop : o.op = Op.makeSlice t l c)
    (e : TypeId) (i : TypeInfo) (z u : Value) (h1 : P.underlying t = some (.slice e)) (h2 : P.info? e = some i) (h3 : i.zero = some z) (h4 : i.size = 1) (h5 : i.bytes ≤ 1000) (hz : z.cells = #[u])
    (n : Nat) (hl : a.eval l = .int .i64 (n : Int)) (hc : a.eval c = .int .i64 (n : Int)) (hn : n ≤ 1000000)
    (hK : wpList P ops Q rest (a.put o.dst (.slice (some ⟨w.heap.size, 0, none⟩) n n)) (w.alloc (.cells (List.replicate n u).toArray e))) :
    wpList P ops Q (o :: rest) a w := by
  refine wpList_plain hg fun K hK' => ?_
  have hb : (i.bytes : Int) * (n : Int) ≤ 281474976710656 := by
    have h : i.bytes * n ≤ 1000 * 1000000 := Nat.mul_le_mul h5 hn
    have : ((i.bytes * n : Nat) : Int) ≤ 281474976710656 := by omega
    rwa [Int.natCast_mul] at this
  have hr := run_make (P := P) w t e i z h1 h2 h3 .i64 .i64 (n : Int) (n : Int) (by omega) (Int.le_refl _) hb (by omega)
  rw [Int.toNat_natCast, h4, Nat.mul_one, hz, made_one] at hr
  unfold Oper.wp
  simp [execOp, hop, hl, hc, hr, Result.andThen]
  exact hK' _ _ hK
/-- A block of whole numbers. -/
def Row (w : World) (g : Nat) (xs : List Int) : Prop := Blk w g 3 (xs.map (Value.int .i64)).toArray
section
variable {w w' : World} {g : Nat} {xs : List Int}
theorem Row.lt (h : Row w g xs) : g < w.heap.size := Blk.lt h
theorem Row.cell (h : Row w g xs) {k : Nat} {x : Int} (hk : xs[k]? = some x) : w.cell? ⟨g, k, none⟩ = some (.int .i64 x) := by
  rw [Blk.cell h]
  simp [hk]
theorem Row.frozen (h : Row w g xs) (k : Nat) : w.frozen? ⟨g, k, none⟩ = false := Blk.frozen h k
theorem Row.set_ (h : Row w g xs) (k : Nat) (x : Int) : Row (w.setCell ⟨g, k, none⟩ (.int .i64 x)) g (xs.set k x) := by
  have := Blk.set_ h k (.int .i64 x)
  unfold Row
  rw [List.map_set]
  simpa using this
theorem Row.far (h : Row w g xs) {p : Addr} (hp : g ≠ p.block) (u : Value) : Row (w.setCell p u) g xs := Blk.far h hp u
theorem Row.alloc (h : Row w g xs) (o : Obj) : Row (w.alloc o) g xs := Blk.alloc h o
theorem Row.below {B : Nat} (h : Row w g xs) (hb : Below B w w') (hg : g < B) : Row w' g xs := Blk.below h hb hg
theorem Row.slr (h : Row w g xs) : SlR 1 RInt w (some ⟨g, 0, none⟩) xs := fun _ =>
  ⟨g, 0, rfl, h.lt, fun k x hx => ⟨[.int .i64 x], rfl, rfl, fun j v hj => by
    match j, hj with
    | 0, hj =>
      simp at hj
      subst hj
      have := h.cell hx
      simpa using this⟩⟩
theorem Row.new (w : World) (xs : List Int) : Row (w.alloc (.cells (xs.map (Value.int .i64)).toArray 3)) w.heap.size xs := Blk.new _ _ _
theorem Row.zeros (w : World) (n : Nat) : Row (w.alloc (.cells (List.replicate n (Value.int .i64 0)).toArray 3)) w.heap.size (List.replicate n 0) := by
  have := Row.new w (List.replicate n 0)
  rwa [List.map_replicate] at this
end
end Go.Proofs.Ytbikjmafddndpaa
