/-
  GrWalkA, GrWalkB, GrWalkF, GrMem, GrCheck, joined. No conditions.
-/
import Derived.Test.YtfjkmgjjifhdkaaGreatChecked
import Derived.Test.YtfjkmgjjifhdkaaGreatR01
import Derived.Test.YtfjkmgjjifhdkaaGreatR02
import Derived.Outline
import Derived.Deep.Light
import Derived.WalkLawsBesides
import Derived.Handy
import Derived.IntWalk
import Derived.OwnWalk
/-
  The walks of layers 15 and 16: graphs in memory; whether a graph is valid.
-/
namespace Go.Proofs.YtfjkmgjjifhdkaaGreat
open Go Go.RowKit

def RLk (_ : World) (x : Lk) (vs : List Value) : Prop := vs = [.int .i64 x.fr, .int .i64 x.to, .int .i64 x.lb, .int .i64 x.cost]
theorem keeps_lk : Keeps RLk := fun _ _ _ _ _ h => h
theorem SlR.lk {w : World} {A : Option Addr} {k : Nat} {xs : List Lk} (h : SlR 4 RLk w A xs) (hk : k < xs.length) : ∃ b off x, A = some ⟨b, off, none⟩ ∧ b < w.heap.size ∧ xs[k]? = some x ∧
    w.cell? ⟨b, off + k * 4, none⟩ = some (.int .i64 x.fr) ∧ w.cell? ⟨b, off + k * 4 + 1, none⟩ = some (.int .i64 x.to) ∧ w.cell? ⟨b, off + k * 4 + 2, none⟩ = some (.int .i64 x.lb) ∧
    w.cell? ⟨b, off + k * 4 + 3, none⟩ = some (.int .i64 x.cost) := by
  obtain ⟨b, off, x, vs, hA, hlt, hx, hr, _, hv⟩ := h.at_ hk
  exact ⟨b, off, x, hA, hlt, hx, hv 0 _ (by rw [hr]; rfl), hv 1 _ (by rw [hr]; rfl), hv 2 _ (by rw [hr]; rfl), hv 3 _ (by rw [hr]; rfl)⟩
theorem nw {w W : World} (o : Obj) (h : Below w.heap.size w W) : Below w.heap.size w (W.alloc o) := h.alloc h.size o
theorem bthen {a b c : World} (h1 : Below a.heap.size a b) (h2 : Below b.heap.size b c) : Below a.heap.size a c := h1.trans (h2.mono h1.size)
theorem gr_no {g : Gr} {k : Nat} {l : Lk} (h : g.ls[k]? = some l) (hl : lkB g.n l = false) : grB g = false := by
  unfold grB
  rw [show g.ls.all (lkB g.n) = false from List.all_eq_false.2 ⟨l, List.mem_of_getElem? h, by rw [hl]; simp⟩]
  simp

set_option maxRecDepth 100000 in
set_option maxHeartbeats 4000000 in
theorem valid_any (A : Option Addr) (c : Nat) (g : Gr) (w : World) (hx : SlR 4 RLk w A g.ls) (hl : g.ls.length ≤ maxLen) :
    Calls Tryz.prog 33 #[.agg #[.int .i64 g.n, .slice A g.ls.length c]] w fun e w' => e = .returned (.bool (grB g)) ∧ Below w.heap.size w w' := by
  unfold maxLen at hl
  obtain ⟨w1, hw1⟩ : ∃ w1, w.alloc (.cells #[.int .i64 g.n, .slice A g.ls.length c] 38) = w1 := ⟨_, rfl⟩
  have hb1 : Below w.heap.size w w1 := by rw [← hw1]; exact nw _ (Below.refl _ _)
  have HB1 : Hid (Blk w1 w.heap.size 38 #[.int .i64 g.n, .slice A g.ls.length c]) := by rw [← hw1]; exact Blk.new _ _ _
  have HW1 := Lib.hid hw1
  have c0 := HB1.out.cell 0
  have c1 := HB1.out.cell 1
  have lb := HB1.out.lt
  simp at c0 c1
  clear hw1
  go_enter Tryz.func33, Tryz.ntmps33
  go_wp2_with fail
  all_goals (rw [HW1.out])
  all_goals first
    | (go_ret; exact ⟨ret_bool (by unfold grB; simp; omega), hb1⟩)
    | skip
  go_loopw [22] (fun i wr => ∃ k : Nat, k ≤ g.ls.length ∧ Hid (∀ l ∈ g.ls.take k, lkB g.n l = true) ∧ i = .int .i64 k ∧ Below w1.heap.size w1 wr) (fun i _ => g.ls.length - (intOf i).toNat)
  case atStart => exact ⟨0, by omega, (by show ∀ l ∈ g.ls.take 0, _; simp), rfl, Below.refl _ _⟩
  case round =>
    obtain ⟨k, hk, HS, rfl, hbr⟩ := hrel
    have hB := HB1.out.below hbr lb
    have r0 := hB.cell 0
    have r1 := hB.cell 1
    have rl := hB.lt
    simp at r0 r1
    have HBr := Lib.hid hbr
    have hbw := bthen hb1 hbr
    by_cases hlt : k < g.ls.length
    · obtain ⟨b, off, l, rfl, hbb, hll, d0, d1, d2, d3⟩ := (hx.below keeps_lk hbw).lk hlt
      have HL := Lib.hid hll
      clear hll hB hbr
      go_wp2_with fail
      all_goals first
        | (go_roundw
           case rel => exact ⟨k + 1, by omega, (by
              show ∀ l ∈ g.ls.take (k + 1), lkB g.n l = true
              rw [take_succ_of HL.out]
              intro l' hl'
              rcases List.mem_append.1 hl' with h | h
              · exact HS.out l' h
              · obtain rfl := List.mem_singleton.1 h
                unfold lkB; simp; omega), by go_num, nw _ HBr.out⟩
           case measure => simp [intOf]; omega)
        | (go_ret; exact ⟨ret_bool (gr_no HL.out (by unfold lkB; simp; omega)).symm, bthen hb1 (nw _ HBr.out)⟩)
    · go_wp2_with fail
      go_ret
      refine ⟨ret_bool ?_, hbw⟩
      have h1 := HS.out
      rw [List.take_of_length_le (by omega)] at h1
      unfold grB
      rw [List.all_eq_true.2 h1]
      simp
      omega

end Go.Proofs.YtfjkmgjjifhdkaaGreat

/-
  The walks of layers 15 and 16: lists of whole numbers compared.
-/
namespace Go.Proofs.YtfjkmgjjifhdkaaGreat
open Go Go.RowKit

def SameTo {α : Type} (xs ys : List α) (k : Nat) : Prop := xs.take k = ys.take k
theorem SameTo.succ {α : Type} {xs ys : List α} {k : Nat} {x : α} (h : SameTo xs ys k) (hx : xs[k]? = some x) (hy : ys[k]? = some x) : SameTo xs ys (k + 1) := by
  unfold SameTo at *
  rw [take_succ_of hx, take_succ_of hy, h]
theorem SameTo.all {α : Type} {xs ys : List α} {k : Nat} (h : SameTo xs ys k) (hx : xs.length ≤ k) (hy : ys.length ≤ k) : xs = ys := by
  unfold SameTo at h
  rwa [List.take_of_length_le hx, List.take_of_length_le hy] at h
theorem ne_at {α : Type} {xs ys : List α} {k : Nat} {x y : α} (hx : xs[k]? = some x) (hy : ys[k]? = some y) (h : x ≠ y) : xs ≠ ys := fun e => by
  subst e
  rw [hx] at hy
  exact h (Option.some.inj hy)

set_option maxRecDepth 100000 in
set_option maxHeartbeats 4000000 in
theorem equal_any (A B : Option Addr) (xs ys : List Int) (c d : Nat) (w : World) (hx : SlR 1 RInt w A xs) (hy : SlR 1 RInt w B ys) (hl : xs.length ≤ maxLen) (hl2 : ys.length ≤ maxLen) :
    Calls Tryz.prog 88 #[.slice A xs.length c, .slice B ys.length d] w fun e w' => e = .returned (.bool (decide (xs = ys))) ∧ Below w.heap.size w w' := by
  unfold maxLen at hl hl2
  by_cases hlen : xs.length = ys.length
  · have HL := Lib.hid hlen
    rw [← hlen]
    clear hlen
    go_enter Tryz.func88, Tryz.ntmps88
    go_wp2_with fail
    go_loopw [13] (fun i wr => ∃ k : Nat, k ≤ xs.length ∧ Hid (SameTo xs ys k) ∧ i = .int .i64 k ∧ Below w.heap.size w wr) (fun i _ => xs.length - (intOf i).toNat)
    case atStart => exact ⟨0, by omega, rfl, rfl, Below.refl _ _⟩
    case round =>
      obtain ⟨k, hk, HS, rfl, hb⟩ := hrel
      by_cases hlt : k < xs.length
      · obtain ⟨b, off, x, rfl, hbb, hxx, hc0⟩ := (hx.below keeps_int hb).int hlt
        obtain ⟨b', off', y, rfl, hbb', hyy, hd0⟩ := (hy.below keeps_int hb).int (k := k) (by have := HL.out; omega)
        have HX := Lib.hid hxx
        have HY := Lib.hid hyy
        clear hxx hyy
        by_cases he : x = y
        · subst he
          go_wp2_with fail
          go_quiet (fail)
          go_wp2_with fail
          go_roundw
          case rel => exact ⟨k + 1, by omega, HS.out.succ HX.out HY.out, by go_num, below_drewN hb _⟩
          case measure => simp [intOf]; omega
        · have HE := Lib.hid he
          have e1 : (x == y) = false := by simpa using he
          have e2 : (x != y) = true := by simpa using he
          clear he
          go_wp2_with fail
          go_quiet (fail)
          go_wp2_with fail
          go_ret
          exact ⟨ret_bool (by simp [ne_at HX.out HY.out HE.out]), below_drewN hb _⟩
      · go_wp2_with fail
        go_ret
        exact ⟨ret_bool (by simp [HS.out.all (by omega) (by have := HL.out; omega)]), hb⟩
  · go_enter Tryz.func88, Tryz.ntmps88
    go_wp2_with fail
    go_ret
    exact ⟨ret_bool (by simp; rintro rfl; exact hlen rfl), Below.refl _ _⟩
end Go.Proofs.YtfjkmgjjifhdkaaGreat

/-
  The walks of layer 16: slices.Compare at whole numbers.
-/
namespace Go.Proofs.YtfjkmgjjifhdkaaGreat
open Go Go.RowKit

/-- What slices.Compare answers. -/
def cmpL : List Int → List Int → Int
  | [], [] => 0
  | [], _ :: _ => -1
  | _ :: _, [] => 1
  | a :: x, b :: y => if a < b then -1 else if b < a then 1 else cmpL x y
theorem cmpL_lt : ∀ (a b : List Int), (cmpL a b < 0) ↔ lexLt a b = true
  | [], [] => by simp [cmpL, lexLt]
  | [], _ :: _ => by simp [cmpL, lexLt]
  | _ :: _, [] => by simp [cmpL, lexLt]
  | x :: a, y :: b => by
    unfold cmpL lexLt
    by_cases h1 : x < y
    · simp [h1]
    · by_cases h2 : y < x
      · simp [h1, h2]
      · simp only [h1, h2, if_false]
        exact cmpL_lt a b
theorem cmpL_drop {xs ys : List Int} {k : Nat} {x y : Int} (hx : xs[k]? = some x) (hy : ys[k]? = some y) : cmpL (xs.drop k) (ys.drop k) = if x < y then -1 else if y < x then 1 else cmpL (xs.drop (k + 1)) (ys.drop (k + 1)) := by
  obtain ⟨h1, rfl⟩ := List.getElem?_eq_some_iff.1 hx
  obtain ⟨h2, rfl⟩ := List.getElem?_eq_some_iff.1 hy
  rw [List.drop_eq_getElem_cons h1, List.drop_eq_getElem_cons h2]
  rfl
theorem cmpInt_any (x y : Int) (w : World) : Calls Tryz.prog 71 #[.int .i64 x, .int .i64 y] w fun e w' => e = .returned (.int .i64 (if x < y then -1 else if y < x then 1 else 0)) ∧ w = w' := by
  have hn : ∀ (x : Int) (w : World), Calls Tryz.prog 96 #[.int .i64 x] w fun e w' => e = .returned (.bool false) ∧ w = w' := fun x w => by
    go_enter Tryz.func96, Tryz.ntmps96
    go_wp2_with fail
    go_ret
    exact ⟨rfl, rfl⟩
  have HN := Lib.hid hn
  clear hn
  obtain h | ⟨h, h'⟩ | ⟨h, h'⟩ : x < y ∨ (¬ x < y ∧ y < x) ∨ (¬ x < y ∧ ¬ y < x) := by omega
  all_goals
    go_enter Tryz.func71, Tryz.ntmps71
    go_wp2_with (go_at_call 96; refine (HN.out _ _).mono ?_; rintro e w' ⟨rfl, rfl⟩)
    go_ret
    exact ⟨ret_int (by first | (simp; done) | (simp; omega) | (simp [*]; done)), rfl⟩
set_option maxRecDepth 100000 in
set_option maxHeartbeats 4000000 in
theorem compare_any (A B : Option Addr) (xs ys : List Int) (c d : Nat) (w : World) (hx : SlR 1 RInt w A xs) (hy : SlR 1 RInt w B ys) (hl : xs.length ≤ maxLen) (hl2 : ys.length ≤ maxLen) :
    Calls Tryz.prog 73 #[.slice A xs.length c, .slice B ys.length d] w fun e w' => e = .returned (.int .i64 (cmpL xs ys)) ∧ w = w' := by
  unfold maxLen at hl hl2
  go_enter Tryz.func73, Tryz.ntmps73
  go_wp2_with fail
  go_loop [11] (fun i => ∃ k : Nat, k ≤ xs.length ∧ k ≤ ys.length ∧ Hid (cmpL xs ys = cmpL (xs.drop k) (ys.drop k)) ∧ i = .int .i64 k) (fun i => xs.length - (intOf i).toNat)
  case atStart => exact ⟨0, by omega, by omega, rfl, rfl⟩
  case round =>
    obtain ⟨k, hk, hk2, HS, rfl⟩ := hrel
    by_cases hlt : k < xs.length
    · obtain ⟨b, off, x, rfl, hbb, hxx, hc0⟩ := hx.int hlt
      by_cases hlt2 : k < ys.length
      · obtain ⟨b', off', y, rfl, hbb', hyy, hd0⟩ := hy.int hlt2
        have HD := Lib.hid (cmpL_drop hxx hyy)
        clear hxx hyy
        obtain h | ⟨h, h'⟩ | ⟨h, h'⟩ : x < y ∨ (¬ x < y ∧ y < x) ∨ (¬ x < y ∧ ¬ y < x) := by omega
        · have HR : Hid (cmpL xs ys = -1) := by show _ = _; rw [HS.out, HD.out, if_pos h]
          have HC : Hid (∀ W, Calls Tryz.prog 71 #[.int .i64 x, .int .i64 y] W fun e w' => e = .returned (.int .i64 (-1)) ∧ W = w') := fun W => by have := cmpInt_any x y W; rw [if_pos h] at this; exact this
          clear h
          go_wp2_with (go_at_call 71; refine (HC.out _).mono ?_; rintro e w' ⟨rfl, rfl⟩)
          go_ret
          exact ⟨ret_int (by rw [HR.out]), rfl⟩
        · have HR : Hid (cmpL xs ys = 1) := by show _ = _; rw [HS.out, HD.out, if_neg h, if_pos h']
          have HC : Hid (∀ W, Calls Tryz.prog 71 #[.int .i64 x, .int .i64 y] W fun e w' => e = .returned (.int .i64 1) ∧ W = w') := fun W => by have := cmpInt_any x y W; rw [if_neg h, if_pos h'] at this; exact this
          clear h h'
          go_wp2_with (go_at_call 71; refine (HC.out _).mono ?_; rintro e w' ⟨rfl, rfl⟩)
          go_ret
          exact ⟨ret_int (by rw [HR.out]), rfl⟩
        · have HR : Hid (cmpL xs ys = cmpL (xs.drop (k + 1)) (ys.drop (k + 1))) := by show _ = _; rw [HS.out, HD.out, if_neg h, if_neg h']
          have HC : Hid (∀ W, Calls Tryz.prog 71 #[.int .i64 x, .int .i64 y] W fun e w' => e = .returned (.int .i64 0) ∧ W = w') := fun W => by have := cmpInt_any x y W; rw [if_neg h, if_neg h'] at this; exact this
          clear h h'
          go_wp2_with (go_at_call 71; refine (HC.out _).mono ?_; rintro e w' ⟨rfl, rfl⟩)
          go_round
          case rel => exact ⟨k + 1, by omega, by omega, HR.out, by go_num⟩
          case measure => simp [intOf]; omega
      · have HR : Hid (cmpL xs ys = 1) := by
          show _ = _
          rw [HS.out, List.drop_eq_nil_of_le (show ys.length ≤ k by omega), List.drop_eq_getElem_cons hlt]
          rfl
        go_wp2_with fail
        go_ret
        exact ⟨ret_int (by rw [HR.out]), rfl⟩
    · have HR : Hid (cmpL xs ys = if xs.length < ys.length then -1 else 0) := by
        show _ = _
        rw [HS.out, List.drop_eq_nil_of_le (show xs.length ≤ k by omega)]
        split
        · rw [List.drop_eq_getElem_cons (show k < ys.length by omega)]; rfl
        · rw [List.drop_eq_nil_of_le (show ys.length ≤ k by omega)]; rfl
      by_cases hlen : xs.length < ys.length
      · have HR2 : Hid (cmpL xs ys = -1) := HR.out.trans (if_pos hlen)
        go_wp2_with fail
        go_ret
        exact ⟨ret_int (by rw [HR2.out]), rfl⟩
      · have HR2 : Hid (cmpL xs ys = 0) := HR.out.trans (if_neg hlen)
        go_wp2_with fail
        go_ret
        exact ⟨ret_int (by rw [HR2.out]), rfl⟩
end Go.Proofs.YtfjkmgjjifhdkaaGreat

/-
  Words for memory of layers 15 and 16: rows of whole numbers made at once, read and written one by one.
-/
namespace Go.Proofs.YtfjkmgjjifhdkaaGreat
open Go Go.RowKit

theorem made_one (u : Value) (n : Nat) : madeCells #[u] n = (List.replicate n u).toArray := by
  unfold madeCells
  apply Array.ext
  · simp
  · intro i h1 h2
    simp [Nat.mod_one]
/-- 'make([]T, n)' of elements of one cell: the world is known. -/
theorem wpList_mk {P : Program} (w : World) {ops : Array Oper} {rest : List Oper} {o : Oper} {a : Act} {Q : Exit → Act → World → Prop}
    (hg : o.guard = none) (l c : Operand) (t : TypeId) (hop : o.op = Op.makeSlice t l c)
    (e : TypeId) (i : TypeInfo) (z u : Value) (h1 : P.underlying t = some (.slice e)) (h2 : P.info? e = some i) (h3 : i.zero = some z) (h4 : i.size = 1) (h5 : i.bytes ≤ 1000) (hz : z.cells = #[u])
    (n : Nat) (hl : a.eval l = .int .i64 (n : Int)) (hc : a.eval c = .int .i64 (n : Int)) (hn : n ≤ 1000000)
    (hK : wpList P ops Q rest (a.put o.dst (.slice (some ⟨w.heap.size, 0, none⟩) n n)) (w.alloc (.cells (List.replicate n u).toArray e))) :
    wpList P ops Q (o :: rest) a w := by
  refine wpList_plain hg fun K hK' => ?_
  have hb : (i.bytes : Int) * (n : Int) ≤ 281474976710656 := by
    have h : i.bytes * n ≤ 1000 * 1000000 := Nat.mul_le_mul h5 hn
    have : ((i.bytes * n : Nat) : Int) ≤ 281474976710656 := by omega
    rwa [Int.natCast_mul] at this
  have hr := run_make (P := P) w t e i z h1 h2 h3 .i64 .i64 (n : Int) (n : Int) (by omega) (Int.le_refl _) hb (by omega)
  rw [Int.toNat_natCast, h4, Nat.mul_one, hz, made_one] at hr
  unfold Oper.wp
  simp [execOp, hop, hl, hc, hr, Result.andThen]
  exact hK' _ _ hK
/-- A block of whole numbers. -/
def Row (w : World) (g : Nat) (xs : List Int) : Prop := Blk w g 3 (xs.map (Value.int .i64)).toArray
section
variable {w w' : World} {g : Nat} {xs : List Int}
theorem Row.lt (h : Row w g xs) : g < w.heap.size := Blk.lt h
theorem Row.cell (h : Row w g xs) {k : Nat} {x : Int} (hk : xs[k]? = some x) : w.cell? ⟨g, k, none⟩ = some (.int .i64 x) := by
  rw [Blk.cell h]
  simp [hk]
theorem Row.frozen (h : Row w g xs) (k : Nat) : w.frozen? ⟨g, k, none⟩ = false := Blk.frozen h k
theorem Row.set_ (h : Row w g xs) (k : Nat) (x : Int) : Row (w.setCell ⟨g, k, none⟩ (.int .i64 x)) g (xs.set k x) := by
  have := Blk.set_ h k (.int .i64 x)
  unfold Row
  rw [List.map_set]
  simpa using this
theorem Row.far (h : Row w g xs) {p : Addr} (hp : g ≠ p.block) (u : Value) : Row (w.setCell p u) g xs := Blk.far h hp u
theorem Row.alloc (h : Row w g xs) (o : Obj) : Row (w.alloc o) g xs := Blk.alloc h o
theorem Row.below {B : Nat} (h : Row w g xs) (hb : Below B w w') (hg : g < B) : Row w' g xs := Blk.below h hb hg
theorem Row.slr (h : Row w g xs) : SlR 1 RInt w (some ⟨g, 0, none⟩) xs := fun _ =>
  ⟨g, 0, rfl, h.lt, fun k x hx => ⟨[.int .i64 x], rfl, rfl, fun j v hj => by
    match j, hj with
    | 0, hj =>
      simp at hj
      subst hj
      have := h.cell hx
      simpa using this⟩⟩
theorem Row.new (w : World) (xs : List Int) : Row (w.alloc (.cells (xs.map (Value.int .i64)).toArray 3)) w.heap.size xs := Blk.new _ _ _
theorem Row.zeros (w : World) (n : Nat) : Row (w.alloc (.cells (List.replicate n (Value.int .i64 0)).toArray 3)) w.heap.size (List.replicate n 0) := by
  have := Row.new w (List.replicate n 0)
  rwa [List.map_replicate] at this
end
end Go.Proofs.YtfjkmgjjifhdkaaGreat

/-
  The plain law of layer 16: the first way that is not among some ways is found by the tree of their beginnings.
-/
namespace Go.Proofs.YtfjkmgjjifhdkaaGreat
open List

structure Oth where
  there : Bool
  cost : Int
  links : List Int
/-- One link of a node, while the node is visited. -/
def visStep (g : Gr) (rec : Oth → List (List Int) → Nat → Int → Int → Oth) (head : List Int) (n : Nat) (c : Int) (s : Oth × List (List Int)) (i : Int) : Oth × List (List Int) :=
  let l := lkAt g i
  if hAt g l.to < 0 then s else
  let same := s.2.takeWhile (fun w => decide (w.getD n 0 = i))
  if same ≠ [] then (rec s.1 same (n + 1) l.to (c + l.cost), s.2.drop same.length) else
  if s.1.there = false ∨ c + l.cost + hAt g l.to < s.1.cost then (⟨true, c + l.cost + hAt g l.to, head ++ [i]⟩, s.2) else s
def visitM (g : Gr) : Nat → Oth → List (List Int) → Nat → Int → Int → Oth
  | 0, o, _, _, _, _ => o
  | f + 1, o, ways, n, v, c =>
    if o.there = true ∧ o.cost ≤ c + hAt g v then o else
    ((lvs g v).foldl (visStep g (visitM g f) ((ways.headD []).take n) n c) (o, ways)).1

/-- What the other way stands for: the first of the ways S. -/
def Rep (g : Gr) (L : List (List Int)) (o : Oth) (S : List Int → Prop) : Prop :=
  (o.there = false ∧ ∀ s, ¬ S s) ∨ (o.there = true ∧ ∃ m, S m ∧ o.cost = sumC g m ∧ (∃ r, m = o.links ++ r) ∧ (∀ w ∈ L, ¬ ∃ r, w = o.links ++ r) ∧
    ∀ s, S s → sumC g m < sumC g s ∨ (sumC g m = sumC g s ∧ (m = s ∨ lexLt m s = true)))
theorem Rep.iff {g : Gr} {L : List (List Int)} {o : Oth} {S T : List Int → Prop} (h : Rep g L o S) (e : ∀ s, S s ↔ T s) : Rep g L o T := by
  rcases h with ⟨h1, h2⟩ | ⟨h1, m, h2, h3, h4, h5, h6⟩
  · exact .inl ⟨h1, fun s hs => h2 s ((e s).2 hs)⟩
  · exact .inr ⟨h1, m, (e m).1 h2, h3, h4, h5, fun s hs => h6 s ((e s).2 hs)⟩
/-- Ways that cost at least as much and come later change nothing. -/
theorem Rep.more {g : Gr} {L : List (List Int)} {o : Oth} {S T : List Int → Prop} (h : Rep g L o S) (ht : o.there = true) (hST : ∀ s, S s → T s)
    (hT : ∀ s, T s → S s ∨ (o.cost ≤ sumC g s ∧ ∀ m, S m → lexLt m s = true)) : Rep g L o T := by
  rcases h with ⟨h1, _⟩ | ⟨h1, m, h2, h3, h4, h5, h6⟩
  · rw [h1] at ht; cases ht
  · refine .inr ⟨h1, m, hST m h2, h3, h4, h5, fun s hs => ?_⟩
    rcases hT s hs with h | ⟨h7, h8⟩
    · exact h6 s h
    · rcases Int.lt_or_le (sumC g m) (sumC g s) with h9 | h9
      · exact .inl h9
      · exact .inr ⟨by omega, .inr (h8 m h2)⟩
theorem getD_pre {p r : List Int} {i : Int} : (p ++ i :: r).getD p.length 0 = i := by simp
theorem take_first {L : List (List Int)} {p : List Int} {i : Int} (hs : L.Pairwise (fun a b => lexLt b a = false)) (hw : ∀ w ∈ L, ∃ j r, w = p ++ j :: r ∧ i ≤ j) :
    ∀ w, w ∈ L.takeWhile (fun w => decide (w.getD p.length 0 = i)) ↔ w ∈ L ∧ w.getD p.length 0 = i := by
  induction L with
  | nil => simp
  | cons x L ih =>
    intro w
    obtain ⟨h1, h2⟩ := pairwise_cons.1 hs
    obtain ⟨j, r, rfl, hij⟩ := hw x (by simp)
    rw [takeWhile_cons]
    by_cases hj : j = i
    · subst hj
      rw [if_pos (by simp), mem_cons, mem_cons, ih h2 (fun w hw' => hw w (by simp [hw']))]
      constructor
      · rintro (rfl | ⟨h3, h4⟩)
        · exact ⟨.inl rfl, getD_pre⟩
        · exact ⟨.inr h3, h4⟩
      · rintro ⟨rfl | h3, h4⟩
        · exact .inl rfl
        · exact .inr ⟨h3, h4⟩
    · rw [if_neg (by simpa using hj)]
      constructor
      · intro h; cases h
      · rintro ⟨h3, h4⟩
        exfalso
        rcases mem_cons.1 h3 with rfl | h3
        · rw [getD_pre] at h4; exact hj h4
        · obtain ⟨j', r', rfl, hij'⟩ := hw w (by simp [h3])
          rw [getD_pre] at h4
          have := h1 _ h3
          rw [lex_pre] at this
          unfold lexLt at this
          rw [if_pos (by omega)] at this
          cases this
theorem drop_first {L : List (List Int)} {p : List Int} {i : Int} (hs : L.Pairwise (fun a b => lexLt b a = false)) (hw : ∀ w ∈ L, ∃ j r, w = p ++ j :: r ∧ i ≤ j) :
    ∀ w, w ∈ L.drop (L.takeWhile (fun w => decide (w.getD p.length 0 = i))).length ↔ w ∈ L ∧ w.getD p.length 0 ≠ i := by
  induction L with
  | nil => simp
  | cons x L ih =>
    intro w
    obtain ⟨h1, h2⟩ := pairwise_cons.1 hs
    obtain ⟨j, r, rfl, hij⟩ := hw x (by simp)
    rw [takeWhile_cons]
    by_cases hj : j = i
    · subst hj
      rw [if_pos (by simp), length_cons, drop_succ_cons, ih h2 (fun w hw' => hw w (by simp [hw'])), mem_cons]
      constructor
      · rintro ⟨h3, h4⟩; exact ⟨.inr h3, h4⟩
      · rintro ⟨rfl | h3, h4⟩
        · exact absurd getD_pre h4
        · exact ⟨h3, h4⟩
    · rw [if_neg (by simpa using hj)]
      simp only [length_nil, drop_zero]
      refine ⟨fun h3 => ⟨h3, fun h4 => ?_⟩, fun h => h.1⟩
      rcases mem_cons.1 h3 with rfl | h3
      · rw [getD_pre] at h4; exact hj h4
      · obtain ⟨j', r', rfl, hij'⟩ := hw w (by simp [h3])
        rw [getD_pre] at h4
        have := h1 _ h3
        rw [lex_pre] at this
        unfold lexLt at this
        rw [if_pos (by omega)] at this
        cases this
/-- A beginning that leads to a node at a cost. -/
def PreOK (g : Gr) (p : List Int) (_v c : Int) : Prop := ∀ w, sumC g (p ++ w) = c + sumC g w
theorem PreOK.snoc {g : Gr} {p : List Int} {v c i : Int} (h : PreOK g p v c) : PreOK g (p ++ [i]) (lkAt g i).to (c + (lkAt g i).cost) := fun w => by
  rw [append_assoc, h]
  show c + ((lkAt g i).cost + sumC g w) = _
  omega
set_option maxHeartbeats 1000000 in
theorem visit_rep {g : Gr} (hg : GrOK g) (L : List (List Int)) : ∀ (f : Nat) (o : Oth) (W : List (List Int)) (p : List Int) (v c : Int) (S : List Int → Prop),
    0 ≤ v → v < g.n → g.n - v ≤ (f : Int) → PreOK g p v c → W ≠ [] → W.Pairwise (fun a b => lexLt b a = false) → (∀ w ∈ W, w ∈ L ∧ ∃ r, w = p ++ r ∧ wayB g v r = true) →
    (∀ w ∈ L, (∃ r, w = p ++ r) → w ∈ W) → Rep g L o S → (∀ s, S s → ∀ r, wayB g v r = true → lexLt s (p ++ r) = true) →
    Rep g L (visitM g f o W p.length v c) (fun s => S s ∨ ∃ r, wayB g v r = true ∧ s = p ++ r ∧ s ∉ L) := by
  intro f
  induction f with
  | zero => intro o W p v c S h0 h1 h2; exfalso; omega
  | succ f ih =>
    intro o W p v c S h0 h1 h2 hp hW hsort hWL hLW hR hS
    obtain ⟨w0, hw0⟩ : ∃ w0, w0 ∈ W := exists_mem_of_ne_nil W hW
    obtain ⟨hw0L, r0, hr0, hr0w⟩ := hWL w0 hw0
    have hhv := (way_h hg r0 v h0 h1 hr0w).1
    unfold visitM
    by_cases hcut : o.there = true ∧ o.cost ≤ c + hAt g v
    · rw [if_pos hcut]
      refine hR.more hcut.1 (fun s hs => .inl hs) fun s hs => ?_
      rcases hs with hs | ⟨r, hr, rfl, _⟩
      · exact .inl hs
      · right
        refine ⟨?_, fun m hm => hS m hm r hr⟩
        rw [hp]
        have := (way_h hg r v h0 h1 hr).2
        omega
    · rw [if_neg hcut]
      have hhead : (W.headD []).take p.length = p := by
        cases W with
        | nil => exact absurd rfl hW
        | cons x W =>
          obtain ⟨_, r, hr, _⟩ := hWL x (by simp)
          show x.take p.length = p
          rw [hr]; simp
      rw [hhead]
      by_cases hv : v = g.n - 1
      · have hl : lvs g v = [] := by
          rcases h : lvs g v with _ | ⟨i, l⟩
          · rfl
          · have hi' := lvs_iff.1 (show i ∈ lvs g v by rw [h]; simp)
            have hok := lkAt_ok hg ⟨hi'.1, hi'.2.1⟩
            have hto := hok.to
            have hlt := hok.lt
            omega
        rw [hl]
        refine hR.iff fun s => ⟨fun h => .inl h, ?_⟩
        rintro (h | ⟨r, hr, rfl, hn⟩)
        · exact h
        · exfalso
          have hnil : ∀ r, wayB g v r = true → r = [] := fun r hr => by
            cases r with
            | nil => rfl
            | cons i r => have := (way_cons.1 hr).1; rw [hl] at this; cases this
          rw [hnil r0 hr0w] at hr0
          rw [hnil r hr] at hn
          rw [hr0] at hw0L
          exact hn hw0L
      -- the links one after the other
      have key : ∀ (R D : List Int) (o' : Oth) (W' : List (List Int)), lvs g v = D ++ R →
          Rep g L o' (fun s => S s ∨ ∃ i r, i ∈ D ∧ wayB g v (i :: r) = true ∧ s = p ++ i :: r ∧ s ∉ L) →
          W'.Pairwise (fun a b => lexLt b a = false) → (∀ w ∈ W', w ∈ W ∧ ∃ i r, w = p ++ i :: r ∧ i ∈ R) → (∀ w ∈ W, (∃ i r, w = p ++ i :: r ∧ i ∈ R) → w ∈ W') →
          Rep g L ((R.foldl (visStep g (visitM g f) p p.length c) (o', W')).1) (fun s => S s ∨ ∃ i r, i ∈ D ++ R ∧ wayB g v (i :: r) = true ∧ s = p ++ i :: r ∧ s ∉ L) := by
        intro R
        induction R with
        | nil =>
          intro D o' W' _ hR' _ _ _
          rw [foldl_nil, append_nil]
          exact hR'
        | cons i R ihR =>
          intro D o' W' hD hR' hsort' hW1 hW2
          have hinc := lvs_inc g v
          rw [hD] at hinc
          obtain ⟨_, hincR, hincDR⟩ := pairwise_append.1 hinc
          obtain ⟨hiR, _⟩ := pairwise_cons.1 hincR
          have hil : i ∈ lvs g v := by rw [hD]; simp
          have hil' := lvs_iff.1 hil
          have hok := lkAt_ok hg ⟨hil'.1, hil'.2.1⟩
          have hto := hok.to
          have hlt := hok.lt
          have hcost := hok.cost
          have hge : ∀ w ∈ W', ∃ j r, w = p ++ j :: r ∧ i ≤ j := fun w hw => by
            obtain ⟨_, j, r, h3, h4⟩ := hW1 w hw
            refine ⟨j, r, h3, ?_⟩
            rcases mem_cons.1 h4 with rfl | h4
            · exact Int.le_refl _
            · have := hiR j h4; omega
          -- what has been met comes before what is still to come
          have hbefore : ∀ s, (S s ∨ ∃ i r, i ∈ D ∧ wayB g v (i :: r) = true ∧ s = p ++ i :: r ∧ s ∉ L) → ∀ r, wayB g v (i :: r) = true → lexLt s (p ++ i :: r) = true := fun s hs r hr => by
            rcases hs with hs | ⟨j, r', hj, _, rfl, _⟩
            · exact hS s hs _ hr
            · rw [lex_pre]
              unfold lexLt
              rw [if_pos (hincDR j hj i (by simp))]
          have e1 : D ++ i :: R = (D ++ [i]) ++ R := by simp
          rw [foldl_cons]
          have hnext : ∀ (o2 : Oth) (W2 : List (List Int)), visStep g (visitM g f) p p.length c (o', W') i = (o2, W2) →
              Rep g L o2 (fun s => S s ∨ ∃ j r, j ∈ D ++ [i] ∧ wayB g v (j :: r) = true ∧ s = p ++ j :: r ∧ s ∉ L) →
              W2.Pairwise (fun a b => lexLt b a = false) → (∀ w ∈ W2, w ∈ W ∧ ∃ j r, w = p ++ j :: r ∧ j ∈ R) → (∀ w ∈ W, (∃ j r, w = p ++ j :: r ∧ j ∈ R) → w ∈ W2) →
              Rep g L ((R.foldl (visStep g (visitM g f) p p.length c) (visStep g (visitM g f) p p.length c (o', W') i)).1) (fun s => S s ∨ ∃ j r, j ∈ D ++ i :: R ∧ wayB g v (j :: r) = true ∧ s = p ++ j :: r ∧ s ∉ L) := by
            intro o2 W2 he h3 h4 h5 h6
            rw [he, e1]
            exact ihR (D ++ [i]) o2 W2 (by rw [hD, e1]) h3 h4 h5 h6
          by_cases hneg : hAt g (lkAt g i).to < 0
          · -- nothing leads on
            have hno : ∀ r, ¬ wayB g v (i :: r) = true := fun r hr => by
              have := (way_h hg r _ (by omega) (by omega) (way_cons.1 hr).2).1
              omega
            refine hnext o' W' (by unfold visStep; dsimp only; rw [if_pos hneg]) (hR'.iff fun s => ?_) hsort' (fun w hw => ?_) (fun w hw hr => ?_)
            · constructor
              · rintro (h | ⟨j, r, hj, h⟩)
                · exact .inl h
                · exact .inr ⟨j, r, by simp [hj], h⟩
              · rintro (h | ⟨j, r, hj, h⟩)
                · exact .inl h
                · rcases mem_append.1 hj with hj | hj
                  · exact .inr ⟨j, r, hj, h⟩
                  · obtain rfl := mem_singleton.1 hj
                    exact absurd h.1 (hno r)
            · obtain ⟨h3, j, r, h4, h5⟩ := hW1 w hw
              refine ⟨h3, j, r, h4, ?_⟩
              rcases mem_cons.1 h5 with rfl | h5
              · obtain ⟨_, r', h6, h7⟩ := hWL w h3
                rw [h4] at h6
                have := append_cancel_left h6
                rw [← this] at h7
                exact absurd h7 (hno r)
              · exact h5
            · obtain ⟨j, r, h4, h5⟩ := hr
              exact hW2 w hw ⟨j, r, h4, by simp [h5]⟩
          · obtain ⟨same, hsame⟩ : ∃ same, W'.takeWhile (fun w => decide (w.getD p.length 0 = i)) = same := ⟨_, rfl⟩
            have hmem := take_first hsort' hge
            have hdrop := drop_first hsort' hge
            rw [hsame] at hmem hdrop
            have hdr : ∀ w ∈ W'.drop same.length, w ∈ W ∧ ∃ j r, w = p ++ j :: r ∧ j ∈ R := fun w hw => by
              obtain ⟨h3, h4⟩ := (hdrop w).1 hw
              obtain ⟨h5, j, r, h6, h7⟩ := hW1 w h3
              refine ⟨h5, j, r, h6, ?_⟩
              rcases mem_cons.1 h7 with rfl | h7
              · rw [h6, getD_pre] at h4; exact absurd rfl h4
              · exact h7
            have hdr2 : ∀ w ∈ W, (∃ j r, w = p ++ j :: r ∧ j ∈ R) → w ∈ W'.drop same.length := fun w hw ⟨j, r, h4, h5⟩ => by
              refine (hdrop w).2 ⟨hW2 w hw ⟨j, r, h4, by simp [h5]⟩, ?_⟩
              rw [h4, getD_pre]
              have := hiR j h5
              omega
            by_cases hs0 : same = []
            · -- all ways that go on by this link are others
              have hnoL : ∀ r, p ++ i :: r ∉ L := fun r hr => by
                have h3 := hLW _ hr ⟨i :: r, rfl⟩
                have h4 := hW2 _ h3 ⟨i, r, rfl, by simp⟩
                have h5 := (hmem _).2 ⟨h4, getD_pre⟩
                rw [hs0] at h5
                cases h5
              have hdr' : ∀ w ∈ W', w ∈ W ∧ ∃ j r, w = p ++ j :: r ∧ j ∈ R := fun w hw => hdr w (by rw [hs0]; exact hw)
              have hdr2' : ∀ w ∈ W, (∃ j r, w = p ++ j :: r ∧ j ∈ R) → w ∈ W' := fun w hw h => by have := hdr2 w hw h; rw [hs0] at this; exact this
              have hti : 0 ≤ hAt g (lkAt g i).to := by omega
              obtain ⟨hb1, hb2⟩ := best_way hg f (lkAt g i).to (by omega) (by omega) (by omega) hti
              by_cases hrep : o'.there = false ∨ c + (lkAt g i).cost + hAt g (lkAt g i).to < o'.cost
              · refine hnext ⟨true, c + (lkAt g i).cost + hAt g (lkAt g i).to, p ++ [i]⟩ W' (by unfold visStep; dsimp only; rw [if_neg hneg, hsame, if_neg (by simpa using hs0), if_pos hrep]) (.inr ⟨rfl, p ++ i :: bestW g f (lkAt g i).to, ?_, ?_, ⟨bestW g f (lkAt g i).to, by simp⟩, ?_, ?_⟩) hsort' hdr' hdr2'
                · exact .inr ⟨i, _, by simp, way_cons.2 ⟨hil, hb1⟩, rfl, hnoL _⟩
                · rw [hp]
                  show c + (lkAt g i).cost + hAt g (lkAt g i).to = c + ((lkAt g i).cost + sumC g _)
                  omega
                · rintro w hw ⟨r, hr⟩
                  exact hnoL r (by rw [show p ++ i :: r = w by rw [hr]; simp]; exact hw)
                · intro s hs
                  have hm : sumC g (p ++ i :: bestW g f (lkAt g i).to) = c + (lkAt g i).cost + hAt g (lkAt g i).to := by
                    rw [hp]
                    show c + ((lkAt g i).cost + sumC g _) = _
                    omega
                  rw [hm]
                  have hold : (S s ∨ ∃ i r, i ∈ D ∧ wayB g v (i :: r) = true ∧ s = p ++ i :: r ∧ s ∉ L) → c + (lkAt g i).cost + hAt g (lkAt g i).to < sumC g s := fun h3 => by
                    rcases hR' with ⟨_, h4⟩ | ⟨h4, m, _, h5, _, _, h6⟩
                    · exact absurd h3 (h4 s)
                    · rcases hrep with h7 | h7
                      · rw [h4] at h7; cases h7
                      · rcases h6 s h3 with h8 | ⟨h8, _⟩ <;> omega
                  rcases hs with h3 | ⟨j, r, hj, hr, he, hn⟩
                  · exact .inl (hold (.inl h3))
                  · rcases mem_append.1 hj with hj | hj
                    · exact .inl (hold (.inr ⟨j, r, hj, hr, he, hn⟩))
                    · obtain rfl := mem_singleton.1 hj
                      subst he
                      obtain ⟨_, hr'⟩ := way_cons.1 hr
                      have h4 := (way_h hg r _ (by omega) (by omega) hr').2
                      have h5 : sumC g (p ++ j :: r) = c + ((lkAt g j).cost + sumC g r) := hp _
                      rcases Int.lt_or_le (hAt g (lkAt g j).to) (sumC g r) with h6 | h6
                      · left; omega
                      · right
                        refine ⟨by omega, ?_⟩
                        rcases best_first hg f (lkAt g j).to (by omega) (by omega) (by omega) r hr' (by omega) with h7 | h7
                        · left; rw [h7]
                        · right; rw [lex_pre]; unfold lexLt; rw [if_neg (by omega), if_neg (by omega)]; exact h7
              · have hth : o'.there = true := by
                  cases h3 : o'.there with
                  | true => rfl
                  | false => exact absurd (.inl h3) hrep
                refine hnext o' W' (by unfold visStep; dsimp only; rw [if_neg hneg, hsame, if_neg (by simpa using hs0), if_neg hrep]) (hR'.more hth (fun s hs => ?_) fun s hs => ?_) hsort' hdr' hdr2'
                · rcases hs with h | ⟨j, r, hj, h⟩
                  · exact .inl h
                  · exact .inr ⟨j, r, by simp [hj], h⟩
                · rcases hs with h | ⟨j, r, hj, hr, rfl, hn⟩
                  · exact .inl (.inl h)
                  · rcases mem_append.1 hj with hj | hj
                    · exact .inl (.inr ⟨j, r, hj, hr, rfl, hn⟩)
                    · obtain rfl := mem_singleton.1 hj
                      right
                      obtain ⟨_, hr'⟩ := way_cons.1 hr
                      have h4 := (way_h hg r _ (by omega) (by omega) hr').2
                      have h5 : sumC g (p ++ j :: r) = c + ((lkAt g j).cost + sumC g r) := hp _
                      refine ⟨?_, fun m hm => hbefore m hm r hr⟩
                      have : ¬ c + (lkAt g j).cost + hAt g (lkAt g j).to < o'.cost := fun h => hrep (.inr h)
                      omega
            · -- into the tree
              have hsub : ∀ w ∈ same, w ∈ W' := fun w hw => ((hmem w).1 hw).1
              have hin := ih o' same (p ++ [i]) (lkAt g i).to (c + (lkAt g i).cost) (fun s => S s ∨ ∃ i r, i ∈ D ∧ wayB g v (i :: r) = true ∧ s = p ++ i :: r ∧ s ∉ L) (by omega) (by omega) (by omega) (hp.snoc (v := v)) hs0
                (by rw [← hsame]; exact Pairwise.sublist (takeWhile_sublist _) hsort')
                (fun w hw => by
                  obtain ⟨h3, h4⟩ := (hmem w).1 hw
                  obtain ⟨h5, j, r, h6, _⟩ := hW1 w h3
                  obtain ⟨h7, r', h8, h9⟩ := hWL w h5
                  have hji : j = i := by rw [h6, getD_pre] at h4; exact h4
                  subst hji
                  rw [h6] at h8
                  have := append_cancel_left h8
                  rw [← this] at h9
                  exact ⟨h7, r, by rw [h6]; simp, (way_cons.1 h9).2⟩)
                (fun w hw ⟨r, hr⟩ => by
                  have hr2 : w = p ++ i :: r := by rw [hr]; simp
                  exact (hmem w).2 ⟨hW2 w (hLW w hw ⟨i :: r, hr2⟩) ⟨i, r, hr2, by simp⟩, by rw [hr2, getD_pre]⟩)
                hR'
                (fun s hs r hr => by
                  have := hbefore s hs r (way_cons.2 ⟨hil, hr⟩)
                  rw [show p ++ [i] ++ r = p ++ i :: r by simp]
                  exact this)
              have elen : (p ++ [i]).length = p.length + 1 := by simp
              rw [elen] at hin
              refine hnext (visitM g f o' same (p.length + 1) (lkAt g i).to (c + (lkAt g i).cost)) (W'.drop same.length) (by unfold visStep; dsimp only; rw [if_neg hneg, hsame, if_pos (by simpa using hs0)]) (hin.iff fun s => ?_) (Pairwise.sublist (drop_sublist _ _) hsort') hdr hdr2
              constructor
              · rintro ((h | ⟨j, r, hj, h⟩) | ⟨r, hr, rfl, hn⟩)
                · exact .inl h
                · exact .inr ⟨j, r, by simp [hj], h⟩
                · exact .inr ⟨i, r, by simp, way_cons.2 ⟨hil, hr⟩, by simp, hn⟩
              · rintro (h | ⟨j, r, hj, hr, he, hn⟩)
                · exact .inl (.inl h)
                · rcases mem_append.1 hj with hj | hj
                  · exact .inl (.inr ⟨j, r, hj, hr, he, hn⟩)
                  · obtain rfl := mem_singleton.1 hj
                    exact .inr ⟨r, (way_cons.1 hr).2, by rw [he]; simp, hn⟩
      have hfin := key (lvs g v) [] o W rfl (hR.iff fun s => by simp) hsort
        (fun w hw => by
          obtain ⟨h3, r, h4, h5⟩ := hWL w hw
          refine ⟨hw, ?_⟩
          cases r with
          | nil => exfalso; unfold wayB at h5; simp at h5; exact hv h5
          | cons i r => exact ⟨i, r, h4, (way_cons.1 h5).1⟩)
        (fun w hw _ => hw)
      refine hfin.iff fun s => ?_
      rw [nil_append]
      constructor
      · rintro (h | ⟨i, r, _, hr, he, hn⟩)
        · exact .inl h
        · exact .inr ⟨i :: r, hr, he, hn⟩
      · rintro (h | ⟨r, hr, he, hn⟩)
        · exact .inl h
        · cases r with
          | nil => exfalso; unfold wayB at hr; simp at hr; exact hv hr
          | cons i r => exact .inr ⟨i, r, (way_cons.1 hr).1, hr, he, hn⟩
end Go.Proofs.YtfjkmgjjifhdkaaGreat
