/-
  The plain laws of layer 19's pages, and what made, More and Check answer at the graphs that the laws draw.
-/
import Derived.Test.YtpajajffkbkeaaaPgWalkE
import Derived.Test.YtpajajffkbkeaaaGrFirst
namespace Go.Proofs.Ytpajajffkbkeaaa
open Go Go.RowKit

/-- The first n candidates. -/
def pgL (g : Gr) (n : Nat) : List Can := (allR g).take n
theorem pgL_len (g : Gr) (n : Nat) : (pgL g n).length = min n (allR g).length := by unfold pgL; rw [List.length_take]
theorem pgWh_eq (g : Gr) (n : Nat) : pgWh g n = decide (min n (allR g).length = (allR g).length) := by unfold pgWh; rw [List.length_take]
theorem pg_same {g : Gr} {n m : Nat} (h : min n (allR g).length = min m (allR g).length) : pgL g n = pgL g m ∧ pgWh g n = pgWh g m := by
  refine ⟨?_, by rw [pgWh_eq, pgWh_eq, h]⟩
  unfold pgL
  rw [List.take_eq_take_iff]
  exact h
theorem pg_pre {g : Gr} {n m : Nat} (h : n ≤ m) : prefB (pgL g n) (pgWh g n) (pgL g m) (pgWh g m) = true := by
  have h1 : preB (pgL g n) (pgL g m) = true := by
    unfold preB
    rw [decide_eq_true_iff, pgL_len]
    unfold pgL
    rw [List.take_take]
    rw [List.take_eq_take_iff]
    omega
  unfold prefB
  rw [h1, Bool.true_and, pgL_len, pgL_len]
  split
  · rename_i h2
    rw [(pg_same h2).2]
    simp
  · rename_i h2
    rw [pgWh_eq, decide_eq_false (by omega)]
    rfl
theorem pg_check {g : Gr} (hg : GrOK g) (h14 : g.ls.length ≤ 14) (n : Nat) : checkM g (pgL g n) (pgWh g n) = (((min n (allR g).length : Nat) : Int), 0) := by
  rw [check_eq hg (allR_is hg h14)]
  unfold refCheckM
  have h := diffAt_pre (pgL g n) [] ((allR g).drop n) 0
  have e : pgL g n ++ (allR g).drop n = allR g := List.take_append_drop _ _
  rw [List.append_nil, e] at h
  rw [h, pgL_len]
  show (if pgWh g n ≠ decide (min n (allR g).length = (allR g).length) then _ else _) = _
  rw [if_neg (by rw [pgWh_eq]; simp)]
theorem pgErr_zero {g : Gr} (hg : GrOK g) {k b : Int} (hk : 0 ≤ k ∧ k ≤ 50) (hb : 0 ≤ b) : pgErr g k b = 0 := by
  unfold pgErr
  rw [if_neg (by rw [grB_iff.2 hg]; simp), if_neg (by omega)]
theorem lmade_any (A : Option Addr) (c : Nat) (g : Gr) (k b : Int) (n : Nat) (w : World) (hx : SlR 4 RLk w A g.ls) (hg : GrOK g) (h14 : g.ls.length ≤ 14) (hk : 0 ≤ k ∧ k ≤ 50) (hb : 0 ≤ b ∧ b ≤ 1000000) (hn : wantN g k b = n) :
    Calls Try.prog 11 #[.agg #[.int .i64 g.n, .slice A g.ls.length c], .int .i64 k, .int .i64 b] w fun e w' => ∃ A c B d, e = .returned (.agg #[.slice A (pgL g n).length c, .bool (pgWh g n), .slice B (potL g).length d, .int .i64 0]) ∧ PgIn w' A c (pgL g n) ∧ SlR 1 RInt w' B (potL g) ∧ (potL g).length ≤ d ∧ d ≤ maxLen ∧ Below w.heap.size w w' := by
  have h := (pmade_any A c g k b w hx h14 hb.2).mono fun _ _ h => h.in_
  rw [show makeM g k b = (pgL g n, pgWh g n, potL g, 0) by unfold makeM; rw [if_pos (pgErr_zero hg hk hb.1), hn]; rfl] at h
  exact h
theorem lmore_any (A : Option Addr) (c : Nat) (g : Gr) (C : Option Addr) (e m : Nat) (k b : Int) (n : Nat) (w : World) (hx : SlR 4 RLk w A g.ls) (hg : GrOK g) (h14 : g.ls.length ≤ 14) (hk : 0 ≤ k ∧ k ≤ 50) (hb : 0 ≤ b ∧ b ≤ 1000000) (hp : PgIn w C e (pgL g m)) (hn : wantN g k b = n) (q : Nat)
    (hq : min (min (min m (allR g).length + n) 50) (allR g).length = min q (allR g).length) :
    Calls Try.prog 14 #[.agg #[.int .i64 g.n, .slice A g.ls.length c], .agg #[.slice C (pgL g m).length e, .bool (pgWh g m)], .int .i64 k, .int .i64 b] w fun e w' => ∃ A c, e = .returned (.tuple #[.agg #[.slice A (pgL g q).length c, .bool (pgWh g q)], .int .i64 0]) ∧ PgIn w' A c (pgL g q) ∧ Below w.heap.size w w' := by
  have hl : (pgL g m).length ≤ 1000000 := by rw [pgL_len]; have := (allR_nW hg h14).1; have := (allR_nW hg h14).2; omega
  have h := (more_any A c g C (pgL g m) e (pgWh g m) k b w hx h14 hp.s hl hp.l hb.2).mono fun _ _ h => h.in_
  obtain ⟨h1, h2⟩ := pg_same hq
  rw [show moreM g (pgL g m) (pgWh g m) k b = (pgL g q, pgWh g q, 0) by
    unfold moreM
    rw [if_pos (pgErr_zero hg hk hb.1), pg_check hg h14, if_pos rfl, hn, pgL_len]
    unfold pgL at h1
    rw [h1, h2]
    rfl] at h
  exact h
theorem lcheck_any (A : Option Addr) (c : Nat) (g : Gr) (B : Option Addr) (d : Nat) (C : Option Addr) (e m : Nat) (w : World) (hx : SlR 4 RLk w A g.ls) (hg : GrOK g) (h14 : g.ls.length ≤ 14) (hh : SlR 1 RInt w B (potL g)) (hp : PgIn w C e (pgL g m)) :
    Calls Try.prog 13 #[.agg #[.int .i64 g.n, .slice A g.ls.length c], .slice B (potL g).length d, .agg #[.slice C (pgL g m).length e, .bool (pgWh g m)]] w fun r w' => r = .returned (.tuple #[.int .i64 ((min m (allR g).length : Nat) : Int), .int .i64 0]) ∧ Below w.heap.size w w' := by
  have hl : (pgL g m).length ≤ 1000000 := by rw [pgL_len]; have := (allR_nW hg h14).1; have := (allR_nW hg h14).2; omega
  have h := check_any A c g B (potL g) d C (pgL g m) e (pgWh g m) w hx (by unfold maxLen; omega) hh (by have := potL_len hg; have := hg.n; unfold maxLen; omega) hp.s hl hp.l
  rw [show checkAll g (potL g) (pgL g m) (pgWh g m) = (((min m (allR g).length : Nat) : Int), 0) by unfold checkAll; rw [if_neg (by rw [grB_iff.2 hg]; simp), if_neg (by simp), pg_check hg h14]] at h
  exact h
theorem want_le {g : Gr} (hg : GrOK g) {k b k' b' : Int} (hk : k ≤ k') (hb : b ≤ b') : wantN g k b ≤ wantN g k' b' := by
  unfold wantN
  have := Int.ediv_le_ediv (show 0 < g.n by have := hg.n; omega) hb
  omega
theorem want_k {g : Gr} (hn : 1 ≤ g.n ∧ g.n ≤ 7) {k : Nat} (hk : k ≤ 50) : wantN g (k : Int) 1000 = k := by
  unfold wantN
  have h1 : 50 ≤ 1000 / g.n := by rw [Int.le_ediv_iff_mul_le (by omega)]; omega
  omega
end Go.Proofs.Ytpajajffkbkeaaa
