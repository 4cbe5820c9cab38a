/-
  The walks of layer 16: ways sorted in place.
-/
import Derived.Test.YtfjkmgjjifhdkaaGreatShelf
import Derived.Test.YtfjkmgjjifhdkaaGreatR03
import Derived.Test.YtfjkmgjjifhdkaaGreatR04
import Derived.Test.YtfjkmgjjifhdkaaGreatR05
import Derived.Shelf.SlSortCmp.Whole1
namespace Go.Proofs.YtfjkmgjjifhdkaaGreat
open Go Go.RowKit Go.Shelf Go.Lib Go.Sort

structure SlE where
  A : Option Addr
  c : Nat
  xs : List Int
def encSl (s : SlE) : Value := .slice s.A s.xs.length s.c
/-- The slice reads as its list in all worlds that leave all blocks but one as they are. -/
def SlOK (w : World) (blk : Nat) (s : SlE) : Prop := s.xs.length ≤ s.c ∧ s.c ≤ maxLen ∧ ∀ W, ButB blk w W → SlR 1 RInt W s.A s.xs
abbrev SlS (w : World) (blk : Nat) := { s : SlE // SlOK w blk s }
instance (w : World) (blk : Nat) : Inhabited (SlS w blk) := ⟨⟨⟨none, 0, []⟩, Nat.le_refl _, Nat.zero_le _, fun _ _ => SlR.nil⟩⟩
def cmpS {w : World} {blk : Nat} (x y : SlS w blk) : Int := cmpL x.1.xs y.1.xs
theorem lt_cmpS {w : World} {blk : Nat} (x y : SlS w blk) : ltOf cmpS x y = lexLt x.1.xs y.1.xs := by
  unfold ltOf cmpS
  rw [Bool.eq_iff_iff, decide_eq_true_iff, cmpL_lt]
theorem swo_cmpS {w : World} {blk : Nat} : SWO (ltOf (cmpS (w := w) (blk := blk))) where
  irrefl x := by rw [lt_cmpS, lex_irrefl]
  trans x y z h1 h2 := by rw [lt_cmpS] at *; exact lex_trans h1 h2
  ntrans x y z h1 h2 := by
    rw [lt_cmpS] at *
    cases h : lexLt x.1.xs z.1.xs with
    | false => rfl
    | true =>
      rcases lex_total y.1.xs z.1.xs with h3 | h3 | h3
      · rw [h3] at h2; cases h2
      · rw [h3, h] at h1; cases h1
      · rw [lex_trans h h3] at h1; cases h1
theorem sw1_below {α : Type} [Inhabited α] {enc : α → Value} {w : World} {blk off n base : Nat} {d : Array α} {os : Array Obj} (hb : base ≤ blk) (hbase : base ≤ w.heap.size) : Go.RowKit.Below base w (sortWorld enc w blk off n d os) where
  os := rfl
  tape := rfl
  output := rfl
  size := by
    unfold sortWorld
    rw [Sort.size_grow, Sort.size_putRow]
    show w.heap.size ≤ w.heap.size + _
    omega
  block := fun k hk => by
    unfold sortWorld
    have h1 : k < (putRow enc (Sort.ahead w n) blk off d).heap.size := by rw [Sort.size_putRow]; show k < w.heap.size; omega
    rw [heap_grow_old _ _ h1]
    show (w.heap.modify blk _)[k]? = _
    rw [Array.getElem?_modify, if_neg (by omega)]
theorem sw1_but {α : Type} [Inhabited α] {enc : α → Value} {w : World} {blk off n : Nat} {d : Array α} {os : Array Obj} : ButB blk w (sortWorld enc w blk off n d os) where
  size := by
    unfold sortWorld
    rw [Sort.size_grow, Sort.size_putRow]
    show w.heap.size ≤ w.heap.size + _
    omega
  block := fun k hk hn => by
    unfold sortWorld
    have h1 : k < (putRow enc (Sort.ahead w n) blk off d).heap.size := by rw [Sort.size_putRow]; show k < w.heap.size; omega
    rw [heap_grow_old _ _ h1]
    show (w.heap.modify blk _)[k]? = _
    rw [Array.getElem?_modify, if_neg (fun e => hn e.symm)]
theorem sw1_holds {α : Type} [Inhabited α] {enc : α → Value} {w : World} {blk off n : Nat} {d0 d : Array α} {os : Array Obj} (h0 : Holds enc w blk off d0) (hblk : blk < w.heap.size) (hs : d.size = d0.size) {j : Nat} (hj : j < d.size) :
    (sortWorld enc w blk off n d os).cell? ⟨blk, off + j, none⟩ = some (enc d[j]!) := by
  unfold sortWorld
  rw [cell?_grow _ _ _ (by rw [Sort.size_putRow]; exact hblk)]
  exact cell?_putRow enc (Sort.ahead w n) blk off d0 d h0 hs j hj
theorem sortW_unique {l l' : List (List Int)} (hp : l'.Perm l) (hs : l'.Pairwise (fun a b => lexLt b a = false)) : l' = sortW l :=
  (hp.trans (sortW_perm l).symm).eq_of_pairwise (fun a b _ _ h1 h2 => by
    rcases lex_total a b with h | h | h
    · rw [h] at h2; cases h2
    · exact h
    · rw [h] at h1; cases h1) hs (sortW_sorted l)
set_option maxHeartbeats 2000000 in
theorem sortWays_any (blk cap : Nat) (l : List SlE) (w : World) (hrow : Blk w blk 40 (l.map encSl).toArray) (hl : ∀ s ∈ l, SlOK w blk s) (hlen : l.length ≤ 1000000) :
    Calls Tryz.prog 91 #[.slice (some ⟨blk, 0, none⟩) l.length cap, .func (.func 73) #[] #[]] w fun e w' =>
      e = .returned (.tuple #[]) ∧ SlR 1 RSl w' (some ⟨blk, 0, none⟩) (sortW (l.map (·.xs))) ∧ ButB blk w w' ∧ ∀ base, base ≤ blk → Go.RowKit.Below base w w' := by
  obtain ⟨d, hd⟩ : ∃ d : List (SlS w blk), d.map (·.1) = l := ⟨l.attachWith _ hl, by rw [List.attachWith_map_subtype_val]⟩
  have hdl : d.length = l.length := by rw [← hd]; simp
  have hget : ∀ j, j < d.length → l[j]? = some (d.toArray[j]!).1 := fun j hj => by
    rw [← hd, List.getElem?_map, List.getElem?_eq_getElem hj]
    simp [hj]
  have hH : Holds (fun s : SlS w blk => encSl s.1) w blk 0 d.toArray := fun j hj => by
    have hj' : j < d.length := by simpa using hj
    refine ⟨?_, hrow.frozen _⟩
    rw [Nat.zero_add, hrow.cell]
    simp [hget j hj']
  have eg : ∀ args w, (callFunc 73 args).run Tryz.prog w = .ok (.enter 73 args) w := enters_of Tryz.func73 (by kernel_rfl) rfl
  have hcmp : CmpLays1 Tryz.prog 73 #[] (fun s : SlS w blk => encSl s.1) cmpS blk 0 d.toArray.size w := fun m os dk hdk x y => by
    have h1 := x.2.2.2 _ (sw1_but (enc := fun s : SlS w blk => encSl s.1) (w := w) (blk := blk) (off := 0) (n := m) (d := dk) (os := os))
    have h2 := y.2.2.2 _ (sw1_but (enc := fun s : SlS w blk => encSl s.1) (w := w) (blk := blk) (off := 0) (n := m) (d := dk) (os := os))
    refine (compare_any x.1.A y.1.A x.1.xs y.1.xs x.1.c y.1.c _ h1 h2 (Nat.le_trans x.2.1 x.2.2.1) (Nat.le_trans y.2.1 y.2.2.1)).mono ?_
    rintro e w' ⟨rfl, rfl⟩
    exact ⟨rfl, 0, #[], by rw [grow_empty]; rfl⟩
  have hcon := Any.slices_SortFunc Tryz.sortWays (fun s : SlS w blk => encSl s.1) (fun _ => rfl) cmpS swo_cmpS 73 #[] blk 0 cap d.toArray w eg hcmp hH hrow.lt (by simp; omega)
  change Calls Tryz.prog 91 _ _ _ at hcon
  rw [show d.toArray.size = l.length by simp [hdl]] at hcon
  refine hcon.mono ?_
  rintro e w' ⟨rfl, d', n, os, ⟨hp0, _, hp⟩, hs, rfl⟩
  have hd's : d'.size = d.length := by simpa using hp0
  have hperm : d'.toList.Perm d := by
    have h1 : (d'.extract 0 l.length) = d' := by rw [← hdl, ← hd's]; simp
    have h2 : (d.toArray.extract 0 l.length) = d.toArray := by rw [← hdl]; simp
    rw [h1, h2] at hp
    simpa using hp
  have hmap : (d'.toList.map (fun s => s.1.xs)) = sortW (l.map (·.xs)) := by
    refine sortW_unique ?_ ?_
    · have := hperm.map (fun s : SlS w blk => s.1.xs)
      rw [← hd, List.map_map]
      exact this
    · rw [List.pairwise_map, List.pairwise_iff_getElem]
      intro i j hi hj hij
      have hj' : j < d'.size := by simpa using hj
      have := hs i j (Nat.zero_le _) hij (by omega)
      rw [lt_cmpS, getElem!_pos d' i (by omega), getElem!_pos d' j hj'] at this
      simpa using this
  refine ⟨rfl, ?_, sw1_but, fun base hb => sw1_below hb (by have := hrow.lt; omega)⟩
  rw [← hmap]
  intro _
  refine ⟨blk, 0, rfl, Nat.lt_of_lt_of_le hrow.lt sw1_but.size, fun k x hk => ?_⟩
  rw [List.getElem?_map] at hk
  cases hk2 : d'.toList[k]? with
  | none => rw [hk2] at hk; cases hk
  | some s =>
    rw [hk2] at hk
    obtain rfl := Option.some.inj hk
    obtain ⟨hk3, hk4⟩ := List.getElem?_eq_some_iff.1 hk2
    have hkd : k < d'.size := by simpa using hk3
    refine ⟨[encSl s.1], ⟨s.1.A, s.1.c, rfl, s.2.2.2 _ sw1_but, s.2.1, s.2.2.1⟩, rfl, fun j v hj => ?_⟩
    match j, hj with
    | 0, hj =>
      simp at hj
      subst hj
      have := sw1_holds (n := n) (os := os) (d := d') hH hrow.lt (by simp [hd's]) hkd
      rw [getElem!_pos d' k hkd] at this
      have hk5 : d'[k] = s := by rw [← hk4]; simp
      rw [hk5] at this
      simpa using this
end Go.Proofs.YtfjkmgjjifhdkaaGreat
