/-
  The candidates of a lattice's own graph, and of the one that pins leave: what the law on pinned pages asks of them. No conditions.
-/
import Derived.Test.YtfjkmgjjifhdkaaGreatP47
import Derived.Test.YtfjkmgjjifhdkaaGreatP48
namespace Go.Proofs.YtfjkmgjjifhdkaaGreat
open Go Go.RowKit

theorem listX_any (x : La) (hx : LaOK x) (B : Option Addr) (d : Nat) (W : World) (hs : SlR 4 RLk W B (grX x).ls) {GN : Int} {GL : Nat} (hN : (grX x).n = GN) (hL : (grX x).ls.length = GL) :
    Calls Tryz.prog 10 #[.agg #[.int .i64 GN, .slice B GL d], .int .i64 50] W fun e w' => ∃ (L : List Can) (B : Option Addr) (d : Nat), e = .returned (.tuple #[.slice B L.length d, .int .i64 0]) ∧ SlR 2 RCan w' B L ∧ Hid (IsList (grX x) 50 L) ∧ Below W.heap.size W w' := by
  subst hN hL
  have hg := grX_ok hx
  have h20 := hg.len
  refine (list_any B d (grX x) 50 W hs (by unfold maxLen; omega)).mono ?_
  rintro e w' ⟨ms, B, d, he, h1, h2, _, _, h5, _, h7⟩
  have h0 : bestErr (grX x) 50 = 0 := by
    unfold bestErr
    rw [if_neg (by rw [grB_iff.2 hg]; decide), if_neg (by omega)]
  rw [h0] at he h5
  exact ⟨ms.map (·.x), B, d, by rw [List.length_map]; exact he, mc_can h1 h2, Lib.hid (show IsList (grX x) 50 (ms.map (·.x)) from h5 rfl), h7⟩
theorem graphX_any (x : La) (hx : LaOK x) (A : Option Addr) (c : Nat) (W : World) (hs : SlR 4 REd W A x.es) (hl : x.es.length ≤ 1000) {GN : Int} {GL : Nat} (hN : (grX x).n = GN) (hL : (grX x).ls.length = GL) :
    Calls Tryz.prog 11 #[.agg #[.int .i64 x.n, .slice A x.es.length c]] W fun r w' => ∃ B d, r = .returned (.agg #[.int .i64 GN, .slice B GL d]) ∧ SlR 4 RLk w' B (grX x).ls ∧ Below W.heap.size W w' := by
  subst hN hL
  exact lGraph_any x A c W hs hl hx.1
theorem edAt_ofX {x : La} {k : Int} {e : Ed} (h : x.es[k.toNat]? = some e) : edAt x k = e := by unfold edAt; rw [List.getD_eq_getElem?_getD, h]; rfl
theorem path_len {n : Int} : ∀ (E : List Ed) (v : Int), pathE n v E → (∀ e ∈ E, e.fr < e.to) → (E.length : Int) ≤ n - v
  | [], v, h, _ => by have h : v = n := h; simp; omega
  | e :: E, v, h, ho => by
    have h1 := path_len E e.to h.2 fun f hf => ho f (by simp [hf])
    have h2 := ho e (by simp)
    have h3 := h.1
    rw [List.length_cons]
    omega
/-- What the law asks of a candidate's links. -/
theorem canX {x : La} (hx : LaOK x) {k : Nat} {L : List Can} (hL : IsList (grX x) k L) {c : Can} (hc : c ∈ L) : (∀ i ∈ c.links, 0 ≤ i ∧ i < (x.es.length : Int)) ∧ (c.links.length : Int) ≤ x.n := by
  obtain ⟨h1, h2⟩ := (way_path _ _).1 (hL.can c hc).1
  refine ⟨h1, ?_⟩
  have := path_len _ _ h2 fun e he => by
    obtain ⟨i, hi, rfl⟩ := List.mem_map.1 he
    exact (hx.2.2.1 _ (List.mem_of_getElem? (edAt_mem (h1 i hi)))).1.2.1
  unfold edsL at this
  rw [List.length_map] at this
  omega
/-- A candidate that has the pins' segments stands among the others at its place. -/
theorem pin_at {x : La} {ps : List Pn} {A B : List Can} (h : B.map (canE (pinL x ps)) = (A.filter (keepC x ps)).map (canE x)) {i : Nat} {c : Can} (hc : A[i]? = some c) (hk : keepC x ps c = true) :
    ∃ d, B[((A.take i).filter (keepC x ps)).length]? = some d ∧ d.cost = c.cost ∧ edsL (pinL x ps) d.links = edsL x c.links := by
  obtain ⟨hi, hci⟩ := List.getElem?_eq_some_iff.1 hc
  have e1 : A.filter (keepC x ps) = (A.take i).filter (keepC x ps) ++ (c :: (A.drop (i + 1)).filter (keepC x ps)) := by
    have e := congrArg (List.filter (keepC x ps)) (List.take_append_drop i A)
    rw [List.filter_append, List.drop_eq_getElem_cons hi, hci, List.filter_cons_of_pos hk] at e
    exact e.symm
  have h2 : ((A.filter (keepC x ps)).map (canE x))[((A.take i).filter (keepC x ps)).length]? = some (canE x c) := by
    rw [e1, List.map_append, List.getElem?_append_right (by rw [List.length_map]; exact Nat.le_refl _), List.length_map, Nat.sub_self]
    rfl
  rw [← h, List.getElem?_map] at h2
  cases hd : B[((A.take i).filter (keepC x ps)).length]? with
  | none => rw [hd] at h2; cases h2
  | some d =>
    rw [hd] at h2
    have h3 : canE (pinL x ps) d = canE x c := Option.some.inj h2
    exact ⟨d, rfl, congrArg Prod.fst h3, congrArg Prod.snd h3⟩
theorem pin_end {x : La} {ps : List Pn} {A B : List Can} (h : B.map (canE (pinL x ps)) = (A.filter (keepC x ps)).map (canE x)) : ((A.take A.length).filter (keepC x ps)).length = B.length := by
  have := congrArg List.length h
  rw [List.length_map, List.length_map] at this
  rw [List.take_length, this]
theorem pin_next {x : La} {ps : List Pn} {A : List Can} {i : Nat} {c : Can} (hc : A[i]? = some c) : ((A.take (i + 1)).filter (keepC x ps)).length = ((A.take i).filter (keepC x ps)).length + (if keepC x ps c = true then 1 else 0) := by
  rw [take_snoc_of hc, List.filter_append, List.length_append]
  by_cases hk : keepC x ps c = true
  · rw [if_pos hk, List.filter_cons_of_pos hk]; rfl
  · rw [if_neg hk, List.filter_cons_of_neg hk]; rfl
/-- One pin's segment among the first links, and the first pins' segments. -/
def hasC (x : La) (c : Can) (p : Pn) (j : Nat) : Bool := (c.links.take j).any fun i => hasE (edAt x i) p
def keepTo (x : La) (ps : List Pn) (c : Can) (k : Nat) : Bool := (ps.take k).all fun p => hasC x c p c.links.length
theorem hasC_succ {x : La} {c : Can} {p : Pn} {j : Nat} {i : Int} (h : c.links[j]? = some i) : hasC x c p (j + 1) = (hasC x c p j || hasE (edAt x i) p) := by
  unfold hasC
  rw [take_snoc_of h, List.any_append]
  simp
theorem keepTo_succ {x : La} {ps : List Pn} {c : Can} {k : Nat} {p : Pn} (h : ps[k]? = some p) : keepTo x ps c (k + 1) = (keepTo x ps c k && hasC x c p c.links.length) := by
  unfold keepTo
  rw [take_snoc_of h, List.all_append]
  simp
theorem keepTo_all (x : La) (ps : List Pn) (c : Can) : keepTo x ps c ps.length = keepC x ps c := by
  unfold keepTo keepC hasC
  rw [List.take_length]
  simp only [List.take_length]
end Go.Proofs.YtfjkmgjjifhdkaaGreat
