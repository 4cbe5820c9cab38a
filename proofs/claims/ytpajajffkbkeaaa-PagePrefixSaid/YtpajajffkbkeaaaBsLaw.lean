/-
  The walks of layer 15: List at the graphs that the laws draw.
-/
import Derived.Test.YtpajajffkbkeaaaBsWalkL
import Derived.Test.YtpajajffkbkeaaaGrWalkC
namespace Go.Proofs.Ytpajajffkbkeaaa
open Go Go.RowKit

/-- A list of candidates and no error. -/
def IsL (L : List Can) (w : World) (e : Ending) (w' : World) : Prop := ∃ A c, e = .returned (.tuple #[.slice A L.length c, .int .i64 0]) ∧ SlR 2 RCan w' A L ∧ L.length ≤ c ∧ c ≤ maxLen ∧ Below w.heap.size w w'
theorem bestErr_ok {g : Gr} (hg : GrOK g) {k : Nat} (hk : k ≤ 50) : bestErr g (k : Int) = 0 := by
  unfold bestErr
  rw [if_neg (by rw [grB_iff.2 hg]; simp), if_neg (by omega)]
theorem listR_any (A : Option Addr) (c : Nat) (g : Gr) (k : Nat) (w : World) (hx : SlR 4 RLk w A g.ls) (hl : g.ls.length ≤ maxLen) (hg : GrOK g) (h14 : g.ls.length ≤ 14) (hk : k ≤ 50) :
    Calls Try.prog 46 #[.agg #[.int .i64 g.n, .slice A g.ls.length c], .int .i64 (k : Int)] w (IsL ((allR g).take k) w) :=
  (list_any A c g (k : Int) w hx hl).mono fun e w' ⟨ms, B, d, h1, h2, h3, h4, h5, h6, _, h8⟩ => by
    have he := bestErr_ok hg hk
    have hL := isList_allR hg h14 (h6 he)
    rw [Int.toNat_natCast] at hL
    rw [he] at h1
    have hn : ms.length = ((allR g).take k).length := by rw [← hL, List.length_map]
    rw [hn] at h1 h4
    exact ⟨B, d, h1, by rw [← hL]; exact mc_can h2 h3, h4, h5, h8⟩
end Go.Proofs.Ytpajajffkbkeaaa
