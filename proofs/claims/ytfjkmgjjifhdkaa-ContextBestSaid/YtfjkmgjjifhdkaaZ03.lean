/-
  GrWalkA, GrWalkB, GrWalkF, GrMem, GrCheck, GrAll, GrWays, GrLeav, GrSl, OrdB, OrdS, joined. No conditions.
-/
import Derived.Test.YtfjkmgjjifhdkaaChecked
import Derived.Test.YtfjkmgjjifhdkaaZ01
import Derived.Test.YtfjkmgjjifhdkaaZ02
import Derived.Outline
import Derived.Deep.Light
import Derived.WalkLawsBesides
import Derived.Handy
import Derived.IntWalk
import Derived.OwnWalk
/-
  The walks of layers 15 and 16: graphs in memory; whether a graph is valid.
-/
namespace Go.Proofs.Ytfjkmgjjifhdkaa
open Go Go.RowKit

def RLk (_ : World) (x : Lk) (vs : List Value) : Prop := vs = [.int .i64 x.fr, .int .i64 x.to, .int .i64 x.lb, .int .i64 x.cost]
theorem keeps_lk : Keeps RLk := fun _ _ _ _ _ h => h
theorem SlR.lk {w : World} {A : Option Addr} {k : Nat} {xs : List Lk} (h : SlR 4 RLk w A xs) (hk : k < xs.length) : ∃ b off x, A = some ⟨b, off, none⟩ ∧ b < w.heap.size ∧ xs[k]? = some x ∧
    w.cell? ⟨b, off + k * 4, none⟩ = some (.int .i64 x.fr) ∧ w.cell? ⟨b, off + k * 4 + 1, none⟩ = some (.int .i64 x.to) ∧ w.cell? ⟨b, off + k * 4 + 2, none⟩ = some (.int .i64 x.lb) ∧
    w.cell? ⟨b, off + k * 4 + 3, none⟩ = some (.int .i64 x.cost) := by
  obtain ⟨b, off, x, vs, hA, hlt, hx, hr, _, hv⟩ := h.at_ hk
  exact ⟨b, off, x, hA, hlt, hx, hv 0 _ (by rw [hr]; rfl), hv 1 _ (by rw [hr]; rfl), hv 2 _ (by rw [hr]; rfl), hv 3 _ (by rw [hr]; rfl)⟩
theorem nw {w W : World} (o : Obj) (h : Below w.heap.size w W) : Below w.heap.size w (W.alloc o) := h.alloc h.size o
theorem bthen {a b c : World} (h1 : Below a.heap.size a b) (h2 : Below b.heap.size b c) : Below a.heap.size a c := h1.trans (h2.mono h1.size)
theorem gr_no {g : Gr} {k : Nat} {l : Lk} (h : g.ls[k]? = some l) (hl : lkB g.n l = false) : grB g = false := by
  unfold grB
  rw [show g.ls.all (lkB g.n) = false from List.all_eq_false.2 ⟨l, List.mem_of_getElem? h, by rw [hl]; simp⟩]
  simp

set_option maxRecDepth 100000 in
set_option maxHeartbeats 4000000 in
theorem valid_any (A : Option Addr) (c : Nat) (g : Gr) (w : World) (hx : SlR 4 RLk w A g.ls) (hl : g.ls.length ≤ maxLen) :
    Calls Try.prog 24 #[.agg #[.int .i64 g.n, .slice A g.ls.length c]] w fun e w' => e = .returned (.bool (grB g)) ∧ Below w.heap.size w w' := by
  unfold maxLen at hl
  obtain ⟨w1, hw1⟩ : ∃ w1, w.alloc (.cells #[.int .i64 g.n, .slice A g.ls.length c] 42) = w1 := ⟨_, rfl⟩
  have hb1 : Below w.heap.size w w1 := by rw [← hw1]; exact nw _ (Below.refl _ _)
  have HB1 : Hid (Blk w1 w.heap.size 42 #[.int .i64 g.n, .slice A g.ls.length c]) := by rw [← hw1]; exact Blk.new _ _ _
  have HW1 := Lib.hid hw1
  have c0 := HB1.out.cell 0
  have c1 := HB1.out.cell 1
  have lb := HB1.out.lt
  simp at c0 c1
  clear hw1
  go_enter Try.func24, Try.ntmps24
  go_wp2_with fail
  all_goals (rw [HW1.out])
  all_goals first
    | (go_ret; exact ⟨ret_bool (by unfold grB; simp; omega), hb1⟩)
    | skip
  go_loopw [22] (fun i wr => ∃ k : Nat, k ≤ g.ls.length ∧ Hid (∀ l ∈ g.ls.take k, lkB g.n l = true) ∧ i = .int .i64 k ∧ Below w1.heap.size w1 wr) (fun i _ => g.ls.length - (intOf i).toNat)
  case atStart => exact ⟨0, by omega, (by show ∀ l ∈ g.ls.take 0, _; simp), rfl, Below.refl _ _⟩
  case round =>
    obtain ⟨k, hk, HS, rfl, hbr⟩ := hrel
    have hB := HB1.out.below hbr lb
    have r0 := hB.cell 0
    have r1 := hB.cell 1
    have rl := hB.lt
    simp at r0 r1
    have HBr := Lib.hid hbr
    have hbw := bthen hb1 hbr
    by_cases hlt : k < g.ls.length
    · obtain ⟨b, off, l, rfl, hbb, hll, d0, d1, d2, d3⟩ := (hx.below keeps_lk hbw).lk hlt
      have HL := Lib.hid hll
      clear hll hB hbr
      go_wp2_with fail
      all_goals first
        | (go_roundw
           case rel => exact ⟨k + 1, by omega, (by
              show ∀ l ∈ g.ls.take (k + 1), lkB g.n l = true
              rw [take_succ_of HL.out]
              intro l' hl'
              rcases List.mem_append.1 hl' with h | h
              · exact HS.out l' h
              · obtain rfl := List.mem_singleton.1 h
                unfold lkB; simp; omega), by go_num, nw _ HBr.out⟩
           case measure => simp [intOf]; omega)
        | (go_ret; exact ⟨ret_bool (gr_no HL.out (by unfold lkB; simp; omega)).symm, bthen hb1 (nw _ HBr.out)⟩)
    · go_wp2_with fail
      go_ret
      refine ⟨ret_bool ?_, hbw⟩
      have h1 := HS.out
      rw [List.take_of_length_le (by omega)] at h1
      unfold grB
      rw [List.all_eq_true.2 h1]
      simp
      omega

end Go.Proofs.Ytfjkmgjjifhdkaa

/-
  The walks of layers 15 and 16: lists of whole numbers compared.
-/
namespace Go.Proofs.Ytfjkmgjjifhdkaa
open Go Go.RowKit

def SameTo {α : Type} (xs ys : List α) (k : Nat) : Prop := xs.take k = ys.take k
theorem SameTo.succ {α : Type} {xs ys : List α} {k : Nat} {x : α} (h : SameTo xs ys k) (hx : xs[k]? = some x) (hy : ys[k]? = some x) : SameTo xs ys (k + 1) := by
  unfold SameTo at *
  rw [take_succ_of hx, take_succ_of hy, h]
theorem SameTo.all {α : Type} {xs ys : List α} {k : Nat} (h : SameTo xs ys k) (hx : xs.length ≤ k) (hy : ys.length ≤ k) : xs = ys := by
  unfold SameTo at h
  rwa [List.take_of_length_le hx, List.take_of_length_le hy] at h
end Go.Proofs.Ytfjkmgjjifhdkaa

/-
  The walks of layer 16: slices.Compare at whole numbers.
-/
namespace Go.Proofs.Ytfjkmgjjifhdkaa
open Go Go.RowKit

/-- What slices.Compare answers. -/
def cmpL : List Int → List Int → Int
  | [], [] => 0
  | [], _ :: _ => -1
  | _ :: _, [] => 1
  | a :: x, b :: y => if a < b then -1 else if b < a then 1 else cmpL x y
theorem cmpL_lt : ∀ (a b : List Int), (cmpL a b < 0) ↔ lexLt a b = true
  | [], [] => by simp [cmpL, lexLt]
  | [], _ :: _ => by simp [cmpL, lexLt]
  | _ :: _, [] => by simp [cmpL, lexLt]
  | x :: a, y :: b => by
    unfold cmpL lexLt
    by_cases h1 : x < y
    · simp [h1]
    · by_cases h2 : y < x
      · simp [h1, h2]
      · simp only [h1, h2, if_false]
        exact cmpL_lt a b
theorem cmpL_drop {xs ys : List Int} {k : Nat} {x y : Int} (hx : xs[k]? = some x) (hy : ys[k]? = some y) : cmpL (xs.drop k) (ys.drop k) = if x < y then -1 else if y < x then 1 else cmpL (xs.drop (k + 1)) (ys.drop (k + 1)) := by
  obtain ⟨h1, rfl⟩ := List.getElem?_eq_some_iff.1 hx
  obtain ⟨h2, rfl⟩ := List.getElem?_eq_some_iff.1 hy
  rw [List.drop_eq_getElem_cons h1, List.drop_eq_getElem_cons h2]
  rfl
theorem cmpInt_any (x y : Int) (w : World) : Calls Try.prog 44 #[.int .i64 x, .int .i64 y] w fun e w' => e = .returned (.int .i64 (if x < y then -1 else if y < x then 1 else 0)) ∧ w = w' := by
  have hn : ∀ (x : Int) (w : World), Calls Try.prog 63 #[.int .i64 x] w fun e w' => e = .returned (.bool false) ∧ w = w' := fun x w => by
    go_enter Try.func63, Try.ntmps63
    go_wp2_with fail
    go_ret
    exact ⟨rfl, rfl⟩
  have HN := Lib.hid hn
  clear hn
  obtain h | ⟨h, h'⟩ | ⟨h, h'⟩ : x < y ∨ (¬ x < y ∧ y < x) ∨ (¬ x < y ∧ ¬ y < x) := by omega
  all_goals
    go_enter Try.func44, Try.ntmps44
    go_wp2_with (go_at_call 63; refine (HN.out _ _).mono ?_; rintro e w' ⟨rfl, rfl⟩)
    go_ret
    exact ⟨ret_int (by first | (simp; done) | (simp; omega) | (simp [*]; done)), rfl⟩
set_option maxRecDepth 100000 in
set_option maxHeartbeats 4000000 in
theorem compare_any (A B : Option Addr) (xs ys : List Int) (c d : Nat) (w : World) (hx : SlR 1 RInt w A xs) (hy : SlR 1 RInt w B ys) (hl : xs.length ≤ maxLen) (hl2 : ys.length ≤ maxLen) :
    Calls Try.prog 46 #[.slice A xs.length c, .slice B ys.length d] w fun e w' => e = .returned (.int .i64 (cmpL xs ys)) ∧ w = w' := by
  unfold maxLen at hl hl2
  go_enter Try.func46, Try.ntmps46
  go_wp2_with fail
  go_loop [11] (fun i => ∃ k : Nat, k ≤ xs.length ∧ k ≤ ys.length ∧ Hid (cmpL xs ys = cmpL (xs.drop k) (ys.drop k)) ∧ i = .int .i64 k) (fun i => xs.length - (intOf i).toNat)
  case atStart => exact ⟨0, by omega, by omega, rfl, rfl⟩
  case round =>
    obtain ⟨k, hk, hk2, HS, rfl⟩ := hrel
    by_cases hlt : k < xs.length
    · obtain ⟨b, off, x, rfl, hbb, hxx, hc0⟩ := hx.int hlt
      by_cases hlt2 : k < ys.length
      · obtain ⟨b', off', y, rfl, hbb', hyy, hd0⟩ := hy.int hlt2
        have HD := Lib.hid (cmpL_drop hxx hyy)
        clear hxx hyy
        obtain h | ⟨h, h'⟩ | ⟨h, h'⟩ : x < y ∨ (¬ x < y ∧ y < x) ∨ (¬ x < y ∧ ¬ y < x) := by omega
        · have HR : Hid (cmpL xs ys = -1) := by show _ = _; rw [HS.out, HD.out, if_pos h]
          have HC : Hid (∀ W, Calls Try.prog 44 #[.int .i64 x, .int .i64 y] W fun e w' => e = .returned (.int .i64 (-1)) ∧ W = w') := fun W => by have := cmpInt_any x y W; rw [if_pos h] at this; exact this
          clear h
          go_wp2_with (go_at_call 44; refine (HC.out _).mono ?_; rintro e w' ⟨rfl, rfl⟩)
          go_ret
          exact ⟨ret_int (by rw [HR.out]), rfl⟩
        · have HR : Hid (cmpL xs ys = 1) := by show _ = _; rw [HS.out, HD.out, if_neg h, if_pos h']
          have HC : Hid (∀ W, Calls Try.prog 44 #[.int .i64 x, .int .i64 y] W fun e w' => e = .returned (.int .i64 1) ∧ W = w') := fun W => by have := cmpInt_any x y W; rw [if_neg h, if_pos h'] at this; exact this
          clear h h'
          go_wp2_with (go_at_call 44; refine (HC.out _).mono ?_; rintro e w' ⟨rfl, rfl⟩)
          go_ret
          exact ⟨ret_int (by rw [HR.out]), rfl⟩
        · have HR : Hid (cmpL xs ys = cmpL (xs.drop (k + 1)) (ys.drop (k + 1))) := by show _ = _; rw [HS.out, HD.out, if_neg h, if_neg h']
          have HC : Hid (∀ W, Calls Try.prog 44 #[.int .i64 x, .int .i64 y] W fun e w' => e = .returned (.int .i64 0) ∧ W = w') := fun W => by have := cmpInt_any x y W; rw [if_neg h, if_neg h'] at this; exact this
          clear h h'
          go_wp2_with (go_at_call 44; refine (HC.out _).mono ?_; rintro e w' ⟨rfl, rfl⟩)
          go_round
          case rel => exact ⟨k + 1, by omega, by omega, HR.out, by go_num⟩
          case measure => simp [intOf]; omega
      · have HR : Hid (cmpL xs ys = 1) := by
          show _ = _
          rw [HS.out, List.drop_eq_nil_of_le (show ys.length ≤ k by omega), List.drop_eq_getElem_cons hlt]
          rfl
        go_wp2_with fail
        go_ret
        exact ⟨ret_int (by rw [HR.out]), rfl⟩
    · have HR : Hid (cmpL xs ys = if xs.length < ys.length then -1 else 0) := by
        show _ = _
        rw [HS.out, List.drop_eq_nil_of_le (show xs.length ≤ k by omega)]
        split
        · rw [List.drop_eq_getElem_cons (show k < ys.length by omega)]; rfl
        · rw [List.drop_eq_nil_of_le (show ys.length ≤ k by omega)]; rfl
      by_cases hlen : xs.length < ys.length
      · have HR2 : Hid (cmpL xs ys = -1) := HR.out.trans (if_pos hlen)
        go_wp2_with fail
        go_ret
        exact ⟨ret_int (by rw [HR2.out]), rfl⟩
      · have HR2 : Hid (cmpL xs ys = 0) := HR.out.trans (if_neg hlen)
        go_wp2_with fail
        go_ret
        exact ⟨ret_int (by rw [HR2.out]), rfl⟩
end Go.Proofs.Ytfjkmgjjifhdkaa

/-
  Words for memory of layers 15 and 16: rows of whole numbers made at once, read and written one by one.
-/
namespace Go.Proofs.Ytfjkmgjjifhdkaa
open Go Go.RowKit

theorem made_one (u : Value) (n : Nat) : madeCells #[u] n = (List.replicate n u).toArray := by
  unfold madeCells
  apply Array.ext
  · simp
  · intro i h1 h2
    simp [Nat.mod_one]
/-- 'make([]T, n)' of elements of one cell: the world is known. -/
theorem wpList_mk {P : Program} (w : World) {ops : Array Oper} {rest : List Oper} {o : Oper} {a : Act} {Q : Exit → Act → World → Prop}
    (hg : o.guard = none) (l c : Operand) (t : TypeId) (hop : o.op = Op.makeSlice t l c)
    (e : TypeId) (i : TypeInfo) (z u : Value) (h1 : P.underlying t = some (.slice e)) (h2 : P.info? e = some i) (h3 : i.zero = some z) (h4 : i.size = 1) (h5 : i.bytes ≤ 1000) (hz : z.cells = #[u])
    (n : Nat) (hl : a.eval l = .int .i64 (n : Int)) (hc : a.eval c = .int .i64 (n : Int)) (hn : n ≤ 1000000)
    (hK : wpList P ops Q rest (a.put o.dst (.slice (some ⟨w.heap.size, 0, none⟩) n n)) (w.alloc (.cells (List.replicate n u).toArray e))) :
    wpList P ops Q (o :: rest) a w := by
  refine wpList_plain hg fun K hK' => ?_
  have hb : (i.bytes : Int) * (n : Int) ≤ 281474976710656 := by
    have h : i.bytes * n ≤ 1000 * 1000000 := Nat.mul_le_mul h5 hn
    have : ((i.bytes * n : Nat) : Int) ≤ 281474976710656 := by omega
    rwa [Int.natCast_mul] at this
  have hr := run_make (P := P) w t e i z h1 h2 h3 .i64 .i64 (n : Int) (n : Int) (by omega) (Int.le_refl _) hb (by omega)
  rw [Int.toNat_natCast, h4, Nat.mul_one, hz, made_one] at hr
  unfold Oper.wp
  simp [execOp, hop, hl, hc, hr, Result.andThen]
  exact hK' _ _ hK
/-- A block of whole numbers. -/
def Row (w : World) (g : Nat) (xs : List Int) : Prop := Blk w g 3 (xs.map (Value.int .i64)).toArray
section
variable {w w' : World} {g : Nat} {xs : List Int}
theorem Row.lt (h : Row w g xs) : g < w.heap.size := Blk.lt h
theorem Row.cell (h : Row w g xs) {k : Nat} {x : Int} (hk : xs[k]? = some x) : w.cell? ⟨g, k, none⟩ = some (.int .i64 x) := by
  rw [Blk.cell h]
  simp [hk]
theorem Row.frozen (h : Row w g xs) (k : Nat) : w.frozen? ⟨g, k, none⟩ = false := Blk.frozen h k
theorem Row.set_ (h : Row w g xs) (k : Nat) (x : Int) : Row (w.setCell ⟨g, k, none⟩ (.int .i64 x)) g (xs.set k x) := by
  have := Blk.set_ h k (.int .i64 x)
  unfold Row
  rw [List.map_set]
  simpa using this
theorem Row.far (h : Row w g xs) {p : Addr} (hp : g ≠ p.block) (u : Value) : Row (w.setCell p u) g xs := Blk.far h hp u
theorem Row.alloc (h : Row w g xs) (o : Obj) : Row (w.alloc o) g xs := Blk.alloc h o
theorem Row.below {B : Nat} (h : Row w g xs) (hb : Below B w w') (hg : g < B) : Row w' g xs := Blk.below h hb hg
theorem Row.slr (h : Row w g xs) : SlR 1 RInt w (some ⟨g, 0, none⟩) xs := fun _ =>
  ⟨g, 0, rfl, h.lt, fun k x hx => ⟨[.int .i64 x], rfl, rfl, fun j v hj => by
    match j, hj with
    | 0, hj =>
      simp at hj
      subst hj
      have := h.cell hx
      simpa using this⟩⟩
theorem Row.new (w : World) (xs : List Int) : Row (w.alloc (.cells (xs.map (Value.int .i64)).toArray 3)) w.heap.size xs := Blk.new _ _ _
theorem Row.zeros (w : World) (n : Nat) : Row (w.alloc (.cells (List.replicate n (Value.int .i64 0)).toArray 3)) w.heap.size (List.replicate n 0) := by
  have := Row.new w (List.replicate n 0)
  rwa [List.map_replicate] at this
end
end Go.Proofs.Ytfjkmgjjifhdkaa

/-
  The plain law of layer 16: the first way that is not among some ways is found by the tree of their beginnings.
-/
namespace Go.Proofs.Ytfjkmgjjifhdkaa
open List

structure Oth where
  there : Bool
  cost : Int
  links : List Int
/-- What the other way stands for: the first of the ways S. -/
def Rep (g : Gr) (L : List (List Int)) (o : Oth) (S : List Int → Prop) : Prop :=
  (o.there = false ∧ ∀ s, ¬ S s) ∨ (o.there = true ∧ ∃ m, S m ∧ o.cost = sumC g m ∧ (∃ r, m = o.links ++ r) ∧ (∀ w ∈ L, ¬ ∃ r, w = o.links ++ r) ∧
    ∀ s, S s → sumC g m < sumC g s ∨ (sumC g m = sumC g s ∧ (m = s ∨ lexLt m s = true)))
theorem Rep.iff {g : Gr} {L : List (List Int)} {o : Oth} {S T : List Int → Prop} (h : Rep g L o S) (e : ∀ s, S s ↔ T s) : Rep g L o T := by
  rcases h with ⟨h1, h2⟩ | ⟨h1, m, h2, h3, h4, h5, h6⟩
  · exact .inl ⟨h1, fun s hs => h2 s ((e s).2 hs)⟩
  · exact .inr ⟨h1, m, (e m).1 h2, h3, h4, h5, fun s hs => h6 s ((e s).2 hs)⟩
/-- Ways that cost at least as much and come later change nothing. -/
theorem Rep.more {g : Gr} {L : List (List Int)} {o : Oth} {S T : List Int → Prop} (h : Rep g L o S) (ht : o.there = true) (hST : ∀ s, S s → T s)
    (hT : ∀ s, T s → S s ∨ (o.cost ≤ sumC g s ∧ ∀ m, S m → lexLt m s = true)) : Rep g L o T := by
  rcases h with ⟨h1, _⟩ | ⟨h1, m, h2, h3, h4, h5, h6⟩
  · rw [h1] at ht; cases ht
  · refine .inr ⟨h1, m, hST m h2, h3, h4, h5, fun s hs => ?_⟩
    rcases hT s hs with h | ⟨h7, h8⟩
    · exact h6 s h
    · rcases Int.lt_or_le (sumC g m) (sumC g s) with h9 | h9
      · exact .inl h9
      · exact .inr ⟨by omega, .inr (h8 m h2)⟩
/-- A beginning that leads to a node at a cost. -/
def PreOK (g : Gr) (p : List Int) (_v c : Int) : Prop := ∀ w, sumC g (p ++ w) = c + sumC g w
theorem PreOK.snoc {g : Gr} {p : List Int} {v c i : Int} (h : PreOK g p v c) : PreOK g (p ++ [i]) (lkAt g i).to (c + (lkAt g i).cost) := fun w => by
  rw [append_assoc, h]
  show c + ((lkAt g i).cost + sumC g w) = _
  omega
end Go.Proofs.Ytfjkmgjjifhdkaa

/-
  The plain law of layer 16: what Check finds is what a comparison with all candidates finds.
-/
namespace Go.Proofs.Ytfjkmgjjifhdkaa
open List

def canLt (a b : Can) : Bool := decide (a.cost < b.cost) || (decide (a.cost = b.cost) && lexLt a.links b.links)
theorem canLt_iff {a b : Can} : canLt a b = true ↔ a.cost < b.cost ∨ (a.cost = b.cost ∧ lexLt a.links b.links = true) := by
  unfold canLt; simp
theorem canLt_irrefl (a : Can) : canLt a a = false := by unfold canLt; simp [lex_irrefl]
theorem canLt_trans {a b c : Can} (h1 : canLt a b = true) (h2 : canLt b c = true) : canLt a c = true := by
  rw [canLt_iff] at *
  rcases h1 with h1 | ⟨h1, h3⟩ <;> rcases h2 with h2 | ⟨h2, h4⟩
  · left; omega
  · left; omega
  · left; omega
  · right; exact ⟨by omega, lex_trans h3 h4⟩
theorem canLt_asymm {a b : Can} (h : canLt a b = true) : canLt b a = false := by
  cases hb : canLt b a with
  | false => rfl
  | true => have := canLt_trans h hb; rw [canLt_irrefl] at this; cases this
theorem canLt_total (a b : Can) : canLt a b = true ∨ a = b ∨ canLt b a = true := by
  rcases Int.lt_or_le a.cost b.cost with h | h
  · left; rw [canLt_iff]; exact .inl h
  · rcases Int.lt_or_le b.cost a.cost with h2 | h2
    · right; right; rw [canLt_iff]; exact .inl h2
    · have h3 : a.cost = b.cost := by omega
      rcases lex_total a.links b.links with h4 | h4 | h4
      · left; rw [canLt_iff]; exact .inr ⟨h3, h4⟩
      · right; left; cases a; cases b; simp at h3 h4 ⊢; exact ⟨h4, h3⟩
      · right; right; rw [canLt_iff]; exact .inr ⟨h3.symm, h4⟩
def IsCan (g : Gr) (c : Can) : Prop := wayB g 0 c.links = true ∧ c.cost = sumC g c.links
def Sorted (A : List Can) : Prop := A.Pairwise (fun a b => canLt a b = true)
theorem Sorted.nodup {A : List Can} (h : Sorted A) : A.Nodup := h.imp fun {a b} hab e => by subst e; rw [canLt_irrefl] at hab; cases hab
/-- Lists of which neither begins with the other are told apart by what is put behind neither. -/
theorem lex_app : ∀ (a b r : List Int), (¬ ∃ t, b = a ++ t) → (¬ ∃ t, a = b ++ t) → lexLt (a ++ r) b = lexLt a b
  | [], b, _, h, _ => absurd ⟨b, rfl⟩ h
  | x :: a, [], _, _, h => absurd ⟨x :: a, rfl⟩ h
  | x :: a, y :: b, r, h1, h2 => by
    rw [cons_append]
    unfold lexLt
    by_cases h3 : x < y
    · rw [if_pos h3, if_pos h3]
    · by_cases h4 : y < x
      · rw [if_neg h3, if_pos h4, if_neg h3, if_pos h4]
      · have : x = y := by omega
        subst this
        rw [if_neg h3, if_neg h3, if_neg h3, if_neg h3]
        exact lex_app a b r (fun ⟨t, ht⟩ => h1 ⟨t, by rw [ht]; rfl⟩) (fun ⟨t, ht⟩ => h2 ⟨t, by rw [ht]; rfl⟩)
end Go.Proofs.Ytfjkmgjjifhdkaa

/-
  The plain law of layer 15: the reference goes through all ways, and puts them in order.
-/
namespace Go.Proofs.Ytfjkmgjjifhdkaa
open List

/-- The same without a limit. -/
def waysF (g : Gr) : Nat → Int → List Can
  | 0, _ => []
  | f + 1, v => if v = g.n - 1 then [⟨[], 0⟩] else (lvs g v).flatMap (fun i => (waysF g f (lkAt g i).to).map (fun r => (⟨i :: r.links, r.cost + (lkAt g i).cost⟩ : Can)))
theorem lvs_last {g : Gr} (hg : GrOK g) : lvs g (g.n - 1) = [] := by
  rcases h : lvs g (g.n - 1) with _ | ⟨i, l⟩
  · rfl
  · have hi' := lvs_iff.1 (show i ∈ lvs g (g.n - 1) by rw [h]; simp)
    have hok := lkAt_ok hg ⟨hi'.1, hi'.2.1⟩
    have hto := hok.to
    have hlt := hok.lt
    omega
theorem waysF_mem {g : Gr} (hg : GrOK g) : ∀ (f : Nat) (v : Int), 0 ≤ v → v < g.n → g.n - v ≤ (f : Int) → ∀ c, c ∈ waysF g f v ↔ wayB g v c.links = true ∧ c.cost = sumC g c.links := by
  intro f
  induction f with
  | zero => intro v h0 h1 h2; exfalso; omega
  | succ f ih =>
    intro v h0 h1 h2 c
    unfold waysF
    by_cases hv : v = g.n - 1
    · rw [if_pos hv, mem_singleton]
      constructor
      · rintro rfl; exact ⟨by unfold wayB; simpa using hv, rfl⟩
      · rintro ⟨h3, h4⟩
        obtain ⟨w, k⟩ := c
        cases w with
        | nil => simp at h4; rw [h4]; rfl
        | cons i w =>
          have := (way_cons.1 h3).1
          rw [hv, lvs_last hg] at this
          cases this
    · rw [if_neg hv, mem_flatMap]
      constructor
      · rintro ⟨i, hi, hc⟩
        obtain ⟨r, hr, rfl⟩ := mem_map.1 hc
        have hi' := lvs_iff.1 hi
        have hok := lkAt_ok hg ⟨hi'.1, hi'.2.1⟩
        have hto := hok.to
        have hlt := hok.lt
        obtain ⟨h3, h4⟩ := (ih _ (by omega) (by omega) (by omega) r).1 hr
        exact ⟨way_cons.2 ⟨hi, h3⟩, by show r.cost + (lkAt g i).cost = (lkAt g i).cost + sumC g r.links; omega⟩
      · rintro ⟨h3, h4⟩
        obtain ⟨w, k⟩ := c
        cases w with
        | nil => unfold wayB at h3; simp at h3; exact absurd h3 hv
        | cons i w =>
          obtain ⟨hi, hw⟩ := way_cons.1 h3
          have hi' := lvs_iff.1 hi
          have hok := lkAt_ok hg ⟨hi'.1, hi'.2.1⟩
          have hto := hok.to
          have hlt := hok.lt
          refine ⟨i, hi, mem_map.2 ⟨⟨w, sumC g w⟩, (ih _ (by omega) (by omega) (by omega) _).2 ⟨hw, rfl⟩, ?_⟩⟩
          have h4' : k = (lkAt g i).cost + sumC g w := h4
          simp
          omega
theorem waysF_nodup (g : Gr) : ∀ (f : Nat) (v : Int), (waysF g f v).Nodup := by
  intro f
  induction f with
  | zero => intro v; exact Pairwise.nil
  | succ f ih =>
    intro v
    unfold waysF
    split
    · exact pairwise_singleton _ _
    · have hinc := lvs_inc g v
      generalize lvs g v = L at *
      induction L with
      | nil => exact Pairwise.nil
      | cons i L ihL =>
        obtain ⟨h1, h2⟩ := pairwise_cons.1 hinc
        rw [flatMap_cons]
        refine nodup_append.2 ⟨?_, ihL h2, ?_⟩
        · refine (ih _).map _ fun a b hab e => hab ?_
          obtain ⟨w, k⟩ := a
          obtain ⟨w', k'⟩ := b
          simp at e ⊢
          exact ⟨e.1, by omega⟩
        · intro a ha b hb e
          subst e
          obtain ⟨r, _, rfl⟩ := mem_map.1 ha
          obtain ⟨j, hj, hb⟩ := mem_flatMap.1 hb
          obtain ⟨r', _, he⟩ := mem_map.1 hb
          simp at he
          have := h1 j hj
          omega
theorem lvTo_len (ls : List Lk) (v : Int) : ∀ k, k ≤ ls.length → (lvTo ls v k).length = (ls.take k).countP (fun l => decide (l.fr = v)) := by
  intro k
  induction k with
  | zero => intro _; rfl
  | succ k ih =>
    intro hk
    have hl : ls[k]? = some ls[k] := List.getElem?_eq_getElem (by omega)
    rw [lvTo_succ hl, take_succ_of hl, countP_append]
    split
    · rename_i h
      rw [length_append, ih (by omega)]
      simp [h]
    · rename_i h
      rw [ih (by omega)]
      simp [h]
end Go.Proofs.Ytfjkmgjjifhdkaa

/-
  The plain law of layer 16: the links that leave each node, counted and sorted into one list.
-/
namespace Go.Proofs.Ytfjkmgjjifhdkaa
open List

/-- Where the links of a node begin in the list of all. -/
def stN (g : Gr) : Nat → Nat
  | 0 => 0
  | v + 1 => stN g v + (lvs g (v : Int)).length
def cntN (g : Gr) (v k : Nat) : Nat := (lvTo g.ls (v : Int) k).length
theorem countP_split (l : List Lk) (v : Int) (hv : 0 ≤ v) : l.countP (fun l => decide (0 ≤ l.fr ∧ l.fr < v + 1)) = l.countP (fun l => decide (0 ≤ l.fr ∧ l.fr < v)) + l.countP (fun l => decide (l.fr = v)) := by
  induction l with
  | nil => rfl
  | cons x l ih =>
    rw [countP_cons, countP_cons, countP_cons, ih]
    by_cases h1 : x.fr = v
    · have a1 : decide (0 ≤ x.fr ∧ x.fr < v + 1) = true := decide_eq_true (by omega)
      have a2 : decide (0 ≤ x.fr ∧ x.fr < v) = false := decide_eq_false (by omega)
      have a3 : decide (x.fr = v) = true := decide_eq_true h1
      rw [a1, a2, a3]
      simp
      omega
    · have a3 : decide (x.fr = v) = false := decide_eq_false h1
      by_cases h2 : 0 ≤ x.fr ∧ x.fr < v
      · have a1 : decide (0 ≤ x.fr ∧ x.fr < v + 1) = true := decide_eq_true (by omega)
        have a2 : decide (0 ≤ x.fr ∧ x.fr < v) = true := decide_eq_true h2
        rw [a1, a2, a3]
        simp
        omega
      · have a1 : decide (0 ≤ x.fr ∧ x.fr < v + 1) = false := decide_eq_false (by omega)
        have a2 : decide (0 ≤ x.fr ∧ x.fr < v) = false := decide_eq_false h2
        rw [a1, a2, a3]
        simp
theorem stN_count (g : Gr) : ∀ v : Nat, stN g v = g.ls.countP (fun l => decide (0 ≤ l.fr ∧ l.fr < (v : Int)))
  | 0 => by
    show 0 = _
    rw [eq_comm, countP_eq_zero]
    intro l _
    simp
  | v + 1 => by
    show stN g v + (lvs g (v : Int)).length = _
    have h := countP_split g.ls (v : Int) (by omega)
    have e : ((v + 1 : Nat) : Int) = (v : Int) + 1 := by omega
    rw [e, h, stN_count g v]
    unfold lvs
    rw [lvTo_len _ _ _ (Nat.le_refl _), take_length]
theorem stN_le (g : Gr) (v : Nat) : stN g v ≤ g.ls.length := by rw [stN_count]; exact countP_le_length
theorem stN_succ (g : Gr) (v : Nat) : stN g (v + 1) = stN g v + (lvs g (v : Int)).length := rfl
theorem stN_mono (g : Gr) {u v : Nat} (h : u ≤ v) : stN g u ≤ stN g v := by
  induction v with
  | zero => obtain rfl : u = 0 := by omega
            exact Nat.le_refl _
  | succ v ih =>
    rcases Nat.lt_or_ge u (v + 1) with h1 | h1
    · have := ih (by omega); rw [stN_succ]; omega
    · obtain rfl : u = v + 1 := by omega
      exact Nat.le_refl _
theorem cntN_le (g : Gr) (v : Nat) {k : Nat} (hk : k ≤ g.ls.length) : cntN g v k ≤ (lvs g (v : Int)).length := by
  unfold cntN lvs
  rw [lvTo_len _ _ _ hk, lvTo_len _ _ _ (Nat.le_refl _), take_length]
  exact Sublist.countP_le (take_sublist _ _)
theorem cntN_succ {g : Gr} {v k : Nat} {l : Lk} (h : g.ls[k]? = some l) : cntN g v (k + 1) = if l.fr = (v : Int) then cntN g v k + 1 else cntN g v k := by
  unfold cntN
  rw [lvTo_succ h]
  split
  · rw [length_append]; rfl
  · rfl
theorem range_set {f f' : Nat → Int} {n i : Nat} (hi : i < n) (h : ∀ v, v < n → v ≠ i → f' v = f v) : (range n).map f' = ((range n).map f).set i (f' i) := by
  apply ext_getElem?
  intro j
  rw [getElem?_set]
  by_cases hj : i = j
  · subst hj
    rw [if_pos rfl]
    simp [hi]
  · rw [if_neg hj]
    rcases Nat.lt_or_ge j n with h1 | h1
    · simp [h1, h j h1 (fun e => hj e.symm)]
    · simp [h1]
/-- The list of all, when k links have been put into it. -/
def AllTo (g : Gr) (k : Nat) (al : List Int) : Prop := al.length = g.ls.length ∧ ∀ (v j : Nat) (x : Int), (lvTo g.ls (v : Int) k)[j]? = some x → al[stN g v + j]? = some x
theorem AllTo.zero (g : Gr) : AllTo g 0 (replicate g.ls.length 0) := ⟨by simp, fun v j x h => by simp [lvTo] at h⟩
theorem cntN_lt {g : Gr} {k f : Nat} {l : Lk} (h : g.ls[k]? = some l) (hf : l.fr = (f : Int)) : cntN g f k < (lvs g (f : Int)).length := by
  have h1 := (List.getElem?_eq_some_iff.1 h).1
  have h2 := cntN_le g f (k := k + 1) h1
  rw [cntN_succ h, if_pos hf] at h2
  omega
theorem AllTo.step {g : Gr} {k f : Nat} {al : List Int} {l : Lk} (ha : AllTo g k al) (h : g.ls[k]? = some l) (hf : l.fr = (f : Int)) : AllTo g (k + 1) (al.set (stN g f + cntN g f k) (k : Int)) := by
  obtain ⟨h1, h2⟩ := ha
  have hlt := cntN_lt h hf
  have hkl := (List.getElem?_eq_some_iff.1 h).1
  have hs := stN_le g (f + 1)
  rw [stN_succ] at hs
  refine ⟨by rw [length_set, h1], fun v j x hx => ?_⟩
  rw [getElem?_set]
  by_cases hv : l.fr = (v : Int)
  · obtain rfl : v = f := by omega
    rw [lvTo_succ h, if_pos hf] at hx
    rcases Nat.lt_or_ge j (cntN g v k) with hj | hj
    · rw [getElem?_append_left hj] at hx
      rw [if_neg (by omega)]
      exact h2 v j x hx
    · rw [getElem?_append_right hj] at hx
      have hj2 : j = cntN g v k := by
        have := (List.getElem?_eq_some_iff.1 hx).1
        simp at this
        unfold cntN at hj ⊢
        omega
      subst hj2
      unfold cntN at hx
      simp at hx
      rw [if_pos rfl, if_pos (by omega), hx]
  · rw [lvTo_succ h, if_neg hv] at hx
    have hj := (List.getElem?_eq_some_iff.1 hx).1
    have hj2 : j < (lvs g (v : Int)).length := Nat.lt_of_lt_of_le hj (cntN_le g v (Nat.le_of_lt hkl))
    rw [if_neg]
    · exact h2 v j x hx
    · intro e
      rcases Nat.lt_or_ge v f with h3 | h3
      · have := stN_mono g (u := v + 1) (v := f) h3
        rw [stN_succ] at this
        omega
      · have h4 : f < v := by omega
        have := stN_mono g (u := f + 1) (v := v) h4
        rw [stN_succ] at this
        omega
theorem AllTo.lt {g : Gr} {k f : Nat} {al : List Int} {l : Lk} (ha : AllTo g k al) (h : g.ls[k]? = some l) (hf : l.fr = (f : Int)) : stN g f + cntN g f k < al.length := by
  have hlt := cntN_lt h hf
  have hs := stN_le g (f + 1)
  rw [stN_succ] at hs
  rw [ha.1]
  omega
end Go.Proofs.Ytfjkmgjjifhdkaa

/-
  Words for memory of layers 15 and 16: slices of slices; parts of rows.
-/
namespace Go.Proofs.Ytfjkmgjjifhdkaa
open Go Go.RowKit

/-- A slice that lies in one cell and reads as a list of numbers. -/
def RSl (w : World) (x : List Int) (vs : List Value) : Prop := ∃ A c, vs = [.slice A x.length c] ∧ SlR 1 RInt w A x ∧ x.length ≤ c ∧ c ≤ maxLen
theorem keeps_sl : Keeps RSl := fun _ _ _ _ hb ⟨A, c, h, hs, hl⟩ => ⟨A, c, h, hs.below keeps_int hb, hl⟩
theorem SlR.sl {w : World} {A : Option Addr} {xs : List (List Int)} (h : SlR 1 RSl w A xs) {k : Nat} (hk : k < xs.length) :
    ∃ b off x A' c, A = some ⟨b, off, none⟩ ∧ b < w.heap.size ∧ xs[k]? = some x ∧ w.cell? ⟨b, off + k, none⟩ = some (.slice A' x.length c) ∧ SlR 1 RInt w A' x ∧ x.length ≤ c ∧ c ≤ maxLen := by
  obtain ⟨b, off, x, vs, hA, hlt, hx, ⟨A', c, hr, hs, hl⟩, _, hv⟩ := h.at_ hk
  have h0 := hv 0 (.slice A' x.length c) (by rw [hr]; rfl)
  simp only [Nat.mul_one, Nat.add_zero] at h0
  exact ⟨b, off, x, A', c, hA, hlt, hx, h0, hs, hl⟩
/-- A part of a row, from s on. -/
theorem Row.part {w : World} {g : Nat} {al : List Int} (h : Row w g al) (s : Nat) {xs : List Int} (hx : ∀ (j : Nat) (x : Int), xs[j]? = some x → al[s + j]? = some x) : SlR 1 RInt w (some ⟨g, s, none⟩) xs := fun _ =>
  ⟨g, s, rfl, h.lt, fun k x hk => ⟨[.int .i64 x], rfl, rfl, fun j v hj => by
    match j, hj with
    | 0, hj =>
      simp at hj
      subst hj
      have := h.cell (hx k x hk)
      simpa using this⟩⟩
/-- What leaving answers. -/
def leavL (g : Gr) (n : Nat) : List (List Int) := (List.range n).map (fun v : Nat => lvs g (v : Int))
theorem leavL_len (g : Gr) (n : Nat) : (leavL g n).length = n := by unfold leavL; simp
theorem leavL_at (g : Gr) {n v : Nat} (hv : v < n) : (leavL g n)[v]? = some (lvs g (v : Int)) := by unfold leavL; simp [hv]
end Go.Proofs.Ytfjkmgjjifhdkaa

/-
  A region that draws its order, walked as a tree: where two operations that make memory may come up in either order, both are walked.
-/
namespace Go.Proofs.Ytfjkmgjjifhdkaa
open Go Go.RowKit

inductive OTree where
  | done
  | quiet (i : Nat) (t : OTree)
  | only (i : Nat) (t : OTree)
  | fork (i j : Nat) (t u : OTree)
  | fork3 (i j k : Nat) (t u v : OTree)
def OTree.depth : OTree → Nat
  | .done => 0
  | .quiet _ t => t.depth + 1
  | .only _ t => t.depth + 1
  | .fork _ _ t u => max t.depth u.depth + 1
  | .fork3 _ _ _ t u v => max t.depth (max u.depth v.depth) + 1
def goodB (ops : Array Oper) : OTree → Array Bool → Bool
  | .done, listed => (Region.ready .any ops listed).isEmpty
  | .quiet i t, listed => (Region.ready .any ops listed).contains i && Region.free .any ops listed i && goodB ops t (listed.setIfInBounds i true)
  | .only i t, listed => Region.ready .any ops listed == [i] && goodB ops t (listed.setIfInBounds i true)
  | .fork i j t u, listed => Region.ready .any ops listed == [i, j] && goodB ops t (listed.setIfInBounds i true) && goodB ops u (listed.setIfInBounds j true)
  | .fork3 i j k t u v, listed => Region.ready .any ops listed == [i, j, k] && goodB ops t (listed.setIfInBounds i true) && goodB ops u (listed.setIfInBounds j true) && goodB ops v (listed.setIfInBounds k true)
def goodTree (ops : Array Oper) (t : OTree) : Bool := decide (t.depth ≤ ops.size) && goodB ops t (Array.replicate ops.size false)

section
variable {P : Program} {ops : Array Oper} {Q : Exit → Act → World → Prop} {S : World → Prop}
def wpB (P : Program) (ops : Array Oper) (Q : Exit → Act → World → Prop) (S : World → Prop) : OTree → Act → World → Prop
  | .done, a, w => Q .normal a w
  | .quiet i t, a, w => ∃ oi v, ops[i]? = some oi ∧ YieldsIf P ops S oi v a ∧ wpB P ops Q S t (a.put oi.dst v) w
  | .only i t, a, w => wpOp P ops Q i (fun a' w' => S w' ∧ wpB P ops Q S t a' w') a w
  | .fork i j t u, a, w => wpOp P ops Q i (fun a' w' => S w' ∧ wpB P ops Q S t a' w') a w ∧ wpOp P ops Q j (fun a' w' => S w' ∧ wpB P ops Q S u a' w') a w
  | .fork3 i j k t u v, a, w => wpOp P ops Q i (fun a' w' => S w' ∧ wpB P ops Q S t a' w') a w ∧ wpOp P ops Q j (fun a' w' => S w' ∧ wpB P ops Q S u a' w') a w ∧ wpOp P ops Q k (fun a' w' => S w' ∧ wpB P ops Q S v a' w') a w

theorem wpAnyH_of_tree (hs : Region.noSelect ops = true) (hQ : ∀ d v c a w, Q (.panic c) (Act.put a (some d) v) w → Q (.panic c) a w) :
    ∀ (t : OTree) (fuel : Nat) (listed : Array Bool) (a : Act) (w : World), t.depth ≤ fuel → goodB ops t listed = true → S w → wpB P ops Q S t a w →
      wpAnyH P .any ops Q S fuel listed a w := by
  intro t
  induction t with
  | done =>
    intro fuel listed a w _ hg _ h
    exact wpAnyH_done (by simpa [goodB] using hg) h fuel
  | quiet i t ih =>
    intro fuel listed a w hf hg hS h
    obtain ⟨fuel, rfl⟩ : ∃ f, fuel = f + 1 := ⟨fuel - 1, by simp [OTree.depth] at hf; omega⟩
    have hf' : t.depth ≤ fuel := by simp [OTree.depth] at hf; omega
    simp only [goodB, Bool.and_eq_true] at hg
    obtain ⟨oi, v, hi, hy, h'⟩ := h
    exact wpAnyH_take hi hs hg.1.2 hg.1.1 (fun c a w hh => by
      cases hd : oi.dst with
      | none => rw [hd] at hh; exact hh
      | some d => rw [hd] at hh; exact hQ d v c a w hh) hy hS (ih fuel _ _ w hf' hg.2 hS h')
  | only i t ih =>
    intro fuel listed a w hf hg hS h
    obtain ⟨fuel, rfl⟩ : ∃ f, fuel = f + 1 := ⟨fuel - 1, by simp [OTree.depth] at hf; omega⟩
    have hf' : t.depth ≤ fuel := by simp [OTree.depth] at hf; omega
    simp only [goodB, Bool.and_eq_true, beq_iff_eq] at hg
    refine wpAnyH_all hg.1 (by simp) fun j hj => ?_
    obtain rfl : j = i := by simpa using hj
    exact wpOp_mono (fun a' w' h' => ⟨h'.1, ih fuel _ a' w' hf' hg.2 h'.1 h'.2⟩) h
  | fork i j t u iht ihu =>
    intro fuel listed a w hf hg hS h
    obtain ⟨fuel, rfl⟩ : ∃ f, fuel = f + 1 := ⟨fuel - 1, by simp [OTree.depth] at hf; omega⟩
    have hf1 : t.depth ≤ fuel := by simp [OTree.depth] at hf; omega
    have hf2 : u.depth ≤ fuel := by simp [OTree.depth] at hf; omega
    simp only [goodB, Bool.and_eq_true, beq_iff_eq] at hg
    refine wpAnyH_all hg.1.1 (by simp) fun k hk => ?_
    have hk' : k = i ∨ k = j := by simpa using hk
    rcases hk' with rfl | rfl
    · exact wpOp_mono (fun a' w' h' => ⟨h'.1, iht fuel _ a' w' hf1 hg.1.2 h'.1 h'.2⟩) h.1
    · exact wpOp_mono (fun a' w' h' => ⟨h'.1, ihu fuel _ a' w' hf2 hg.2 h'.1 h'.2⟩) h.2
  | fork3 i j k t u v iht ihu ihv =>
    intro fuel listed a w hf hg hS h
    obtain ⟨fuel, rfl⟩ : ∃ f, fuel = f + 1 := ⟨fuel - 1, by simp [OTree.depth] at hf; omega⟩
    have hf1 : t.depth ≤ fuel := by simp [OTree.depth] at hf; omega
    have hf2 : u.depth ≤ fuel := by simp [OTree.depth] at hf; omega
    have hf3 : v.depth ≤ fuel := by simp [OTree.depth] at hf; omega
    simp only [goodB, Bool.and_eq_true, beq_iff_eq] at hg
    refine wpAnyH_all hg.1.1.1 (by simp) fun n hn => ?_
    have hn' : n = i ∨ n = j ∨ n = k := by simpa using hn
    rcases hn' with rfl | rfl | rfl
    · exact wpOp_mono (fun a' w' h' => ⟨h'.1, iht fuel _ a' w' hf1 hg.1.1.2 h'.1 h'.2⟩) h.1
    · exact wpOp_mono (fun a' w' h' => ⟨h'.1, ihu fuel _ a' w' hf2 hg.1.2 h'.1 h'.2⟩) h.2.1
    · exact wpOp_mono (fun a' w' h' => ⟨h'.1, ihv fuel _ a' w' hf3 hg.2 h'.1 h'.2⟩) h.2.2

theorem ordB_below {id : Nat} {a : Act} {w : World} (t : OTree) (hm : P.follows .mixedOrders = true) (hs : Region.noSelect ops = true) (hg : goodTree ops t = true)
    (hQ : ∀ d v c a w, Q (.panic c) (Act.put a (some d) v) w → Q (.panic c) a w) (h : ∀ W, Below w.heap.size w W → wpB P ops Q (Below w.heap.size w) t a W) : (Code.region id ops true).wp P Q a w := by
  unfold goodTree at hg
  simp only [Bool.and_eq_true, decide_eq_true_eq] at hg
  have hS : Below w.heap.size w w.drew := (Below.refl _ _).drew
  exact wp_region_held_drew hm hS fun hS => wpAnyH_of_tree hs hQ t _ _ a _ hg.1 hg.2 hS (h _ hS)

theorem ordB_nil {a : Act} {w : World} (h : Q .normal a w) : wpB P ops Q S .done a w := h
theorem ordB_skip {i : Nat} {o : Oper} {t : OTree} {a : Act} {w : World} (ho' : nthO ops.toList i = some o) (hw : Region.wanted o (yielded ops a.tmps) = false)
    (h : wpB P ops Q S t (a.put o.dst undef) w) : wpB P ops Q S (.quiet i t) a w := ⟨o, undef, nthO_spec ho', .inr ⟨hw, rfl⟩, h⟩
theorem ordB_take {i : Nat} {o : Oper} {v : Value} {t : OTree} {a : Act} {w : World} (ho' : nthO ops.toList i = some o) (hw : Region.wanted o (yielded ops a.tmps) = true)
    (hy : ∀ W, S W → (execOp a.eval o).run P W = .ok (.value v) W)
    (h : wpB P ops Q S t (a.put o.dst v) w) : wpB P ops Q S (.quiet i t) a w := ⟨o, v, nthO_spec ho', .inl ⟨hw, hy⟩, h⟩
theorem opB_call {i : Nat} {o : Oper} {t : OTree} {a : Act} {w : World} (ho' : nthO ops.toList i = some o) (hw : Region.wanted o (yielded ops a.tmps) = true)
    (h : ∀ K' : Act → World → Prop, Shut (∀ a w, S w → (S w → wpB P ops Q S t a w) → K' a w) → Oper.wp P o a w K' Q) : wpOp P ops Q i (fun a' w' => S w' ∧ wpB P ops Q S t a' w') a w := by
  have ho := nthO_spec ho'
  refine wpOp_step ho fun K' hK => ?_
  rw [if_pos hw]
  exact h K' fun a w hS hW => hK a w ⟨hS, hW hS⟩
theorem opB_cskip {i : Nat} {o : Oper} {t : OTree} {a : Act} {w : World} (ho' : nthO ops.toList i = some o) (hw : Region.wanted o (yielded ops a.tmps) = false) (hS : S w)
    (h : wpB P ops Q S t (a.put o.dst undef) w) : wpOp P ops Q i (fun a' w' => S w' ∧ wpB P ops Q S t a' w') a w := by
  have ho := nthO_spec ho'
  unfold wpOp
  rw [ho]
  show if Region.wanted o (yielded ops a.tmps) = true then _ else _
  rw [if_neg (by rw [hw]; decide)]
  exact ⟨hS, h⟩
theorem ordB_only {i : Nat} {t : OTree} {a : Act} {w : World} (h : wpOp P ops Q i (fun a' w' => S w' ∧ wpB P ops Q S t a' w') a w) : wpB P ops Q S (.only i t) a w := h
theorem ordB_fork {i j : Nat} {t u : OTree} {a : Act} {w : World} (h1 : wpOp P ops Q i (fun a' w' => S w' ∧ wpB P ops Q S t a' w') a w) (h2 : wpOp P ops Q j (fun a' w' => S w' ∧ wpB P ops Q S u a' w') a w) : wpB P ops Q S (.fork i j t u) a w := ⟨h1, h2⟩
theorem ordB_fork3 {i j k : Nat} {t u v : OTree} {a : Act} {w : World} (h1 : wpOp P ops Q i (fun a' w' => S w' ∧ wpB P ops Q S t a' w') a w) (h2 : wpOp P ops Q j (fun a' w' => S w' ∧ wpB P ops Q S u a' w') a w) (h3 : wpOp P ops Q k (fun a' w' => S w' ∧ wpB P ops Q S v a' w') a w) : wpB P ops Q S (.fork3 i j k t u v) a w := ⟨h1, h2, h3⟩
end
end Go.Proofs.Ytfjkmgjjifhdkaa

/-
  A region that draws its order, walked as a tree, under any condition on the world that holds throughout; all blocks but one as they were.
-/
namespace Go.Proofs.Ytfjkmgjjifhdkaa
open Go Go.RowKit

theorem ordB_start {P : Program} {ops : Array Oper} {Q : Exit → Act → World → Prop} {id : Nat} {a : Act} {w : World} (S : World → Prop) (t : OTree) (hm : P.follows .mixedOrders = true) (hs : Region.noSelect ops = true) (hg : goodTree ops t = true)
    (hQ : ∀ d v c a w, Q (.panic c) (Act.put a (some d) v) w → Q (.panic c) a w) (hS : S w.drew) (h : wpB P ops Q S t a w.drew) : (Code.region id ops true).wp P Q a w := by
  unfold goodTree at hg
  simp only [Bool.and_eq_true, decide_eq_true_eq] at hg
  exact wp_region_held_drew hm hS fun hS => wpAnyH_of_tree hs hQ t _ _ a _ hg.1 hg.2 hS h
/-- All old blocks but g are as they were. -/
structure ButB (g : Nat) (w w' : World) : Prop where
  size : w.heap.size ≤ w'.heap.size
  block : ∀ b, b < w.heap.size → b ≠ g → w'.heap[b]? = w.heap[b]?
section
variable {g : Nat} {w w' w2 : World}
theorem ButB.refl (g : Nat) (w : World) : ButB g w w := ⟨Nat.le_refl _, fun _ _ _ => rfl⟩
theorem ButB.of_below (h : Below w.heap.size w w') : ButB g w w' := ⟨h.size, fun b hb _ => h.block b hb⟩
theorem ButB.trans (h : ButB g w w') (h2 : ButB g w' w2) : ButB g w w2 := ⟨Nat.le_trans h.size h2.size, fun b hb hn => (h2.block b (Nat.lt_of_lt_of_le hb h.size) hn).trans (h.block b hb hn)⟩
theorem ButB.set_ (h : ButB g w w') (o : Nat) (v : Value) : ButB g w (w'.setCell ⟨g, o, none⟩ v) := ⟨by simpa using h.size, fun b hb hn => (Below.heap_setCell w' ⟨g, o, none⟩ v b hn).trans (h.block b hb hn)⟩
theorem ButB.cell (h : ButB g w w') : ∀ b o, b < w.heap.size → b ≠ g → w'.cell? ⟨b, o, none⟩ = w.cell? ⟨b, o, none⟩ := fun b _ hb hn => World.cell?_of_block (h.block b hb hn)
theorem ButB.blk {b : Nat} {t : TypeId} {cs : Array Value} (h : ButB g w w') (hb : Blk w b t cs) (hn : b ≠ g) : Blk w' b t cs := (h.block b hb.lt hn).trans hb
end
end Go.Proofs.Ytfjkmgjjifhdkaa
