/-
  The walks of layer 21: a tap put into a slice ahead of its end (the library's Insert).
-/
import Derived.Test.YtpjecpefbfobdaaAreaIns1
import Derived.Shelf.Spec.SlicesInsert
import Derived.Shelf.RegionOpenPlain
namespace Go.Proofs.Ytpjecpefbfobdaa
open Go Go.RowKit

theorem over_at (a r vs : List Value) : over (a ++ r) a.length vs = a ++ vs ++ r.drop vs.length := by
  simp [over, List.drop_append]
theorem flatMap_encT_len (l : List Tp) : (l.flatMap encT).length = l.length * 4 := flatMap_len (s := 4) (enc := encT) (fun _ => rfl) l
theorem insAt_enc (xs : List Tp) (i : Nat) (p : Tp) : (insAt xs i p).flatMap encT = (xs.take i).flatMap encT ++ encT p ++ (xs.drop i).flatMap encT := by simp [insAt]
theorem over_ins {cur : List Value} {xs : List Tp} {i : Nat} (p : Tp) (hi : i ≤ xs.length) (htk : cur.take (i * 4) = (xs.take i).flatMap encT) (hs : (xs.length + 1) * 4 ≤ cur.length) :
    (over (over cur (i * 4) (encT p)) ((i + 1) * 4) ((xs.drop i).flatMap encT)).take ((xs.length + 1) * 4) = (insAt xs i p).flatMap encT ∧
    (over (over cur ((i + 1) * 4) ((xs.drop i).flatMap encT)) (i * 4) (encT p)).take ((xs.length + 1) * 4) = (insAt xs i p).flatMap encT := by
  have ha : ((xs.take i).flatMap encT).length = i * 4 := by rw [flatMap_encT_len, List.length_take, Nat.min_eq_left hi]
  have hb : ((xs.drop i).flatMap encT).length = (xs.length - i) * 4 := by rw [flatMap_encT_len, List.length_drop]
  obtain ⟨r, hr⟩ : ∃ r, r = cur.drop (i * 4) := ⟨_, rfl⟩
  have hc : cur = (xs.take i).flatMap encT ++ r := by rw [← htk, hr, List.take_append_drop]
  have hrl : r.length = cur.length - i * 4 := by rw [hr, List.length_drop]
  obtain ⟨x, hx⟩ : ∃ x, x = r.take 4 := ⟨_, rfl⟩
  obtain ⟨y, hy⟩ : ∃ y, y = r.drop 4 := ⟨_, rfl⟩
  have hxy : r = x ++ y := by rw [hx, hy, List.take_append_drop]
  have hxl : x.length = 4 := by rw [hx, List.length_take]; omega
  have hpl : (encT p).length = 4 := rfl
  rw [insAt_enc]
  generalize (xs.take i).flatMap encT = a at *
  generalize (xs.drop i).flatMap encT = b at *
  generalize encT p = v at *
  clear hr hx hy htk
  subst hxy
  subst hc
  have e1 : over (a ++ (x ++ y)) (i * 4) v = a ++ v ++ y := by
    rw [← ha, over_at, List.drop_append_of_le_length (by omega), List.drop_of_length_le (by omega), List.nil_append]
  have e2 : over (a ++ v ++ y) ((i + 1) * 4) b = a ++ v ++ b ++ y.drop b.length := by
    rw [show (i + 1) * 4 = (a ++ v).length by simp; omega, over_at]
  have e3 : over (a ++ (x ++ y)) ((i + 1) * 4) b = a ++ (x ++ (b ++ y.drop b.length)) := by
    rw [← List.append_assoc, show (i + 1) * 4 = (a ++ x).length by simp; omega, over_at]; simp
  have e4 : over (a ++ (x ++ (b ++ y.drop b.length))) (i * 4) v = a ++ v ++ b ++ y.drop b.length := by
    rw [← ha, over_at, List.drop_append_of_le_length (by omega), List.drop_of_length_le (by omega)]; simp
  rw [e1, e2, e3, e4]
  have hl : (a ++ v ++ b).length = (xs.length + 1) * 4 := by simp; omega
  rw [← hl]
  exact ⟨by rw [List.take_append_of_le_length (Nat.le_refl _), List.take_length], by rw [List.take_append_of_le_length (Nat.le_refl _), List.take_length]⟩
theorem over_len (l : List Value) (o : Nat) (vs : List Value) (h : o + vs.length ≤ l.length) : (over l o vs).length = l.length := by
  simp [over]; omega
theorem cells_of_take {w : World} {g : Nat} {t : TypeId} {cur : List Value} (h : Blk w g t cur.toArray) {m : Nat} {xs : List Value} (htk : cur.take m = xs) : ∀ j u, xs[j]? = some u → w.cell? ⟨g, j, none⟩ = some u := fun j u hj => by
  rw [h.cell]
  rw [← htk, List.getElem?_take] at hj
  split at hj
  · simpa using hj
  · cases hj
theorem encT_one : ∀ (l : List Tp), ∀ u ∈ l.flatMap encT, u.oneCell' = true := fun l u hu => by
  obtain ⟨x, _, hx⟩ := List.mem_flatMap.1 hu
  simp [encT] at hx
  rcases hx with rfl | rfl | rfl | rfl <;> rfl

set_option maxRecDepth 100000 in
set_option maxHeartbeats 4000000 in
theorem insT_grow (g i : Nat) (xs : List Tp) (p : Tp) (base vb : Nat) (w : World) (hown : w.ownsRow base 82 4 (.slice (some ⟨g, 0, none⟩) xs.length xs.length) xs.length (xs.flatMap encT)) (hin : i < xs.length)
    (hv : Blk w vb 82 #[.int .u8 p.key, .int .i64 p.dx, .int .i64 p.dy, .int .i64 p.n]) (hbase : base ≤ w.heap.size) (hl : xs.length ≤ 65536) :
    Calls Try.prog 45 #[.slice (some ⟨g, 0, none⟩) xs.length xs.length, .int .i64 i, .slice (some ⟨vb, 0, none⟩) 1 1] w fun e w' => ∃ v', e = .returned v' ∧ w'.ownsRow base 82 4 v' (xs.length + 1) ((insAt xs i p).flatMap encT) ∧ Below base w w' ∧ Apps w w' (.slice (some ⟨g, 0, none⟩) xs.length xs.length) v' := by
  obtain ⟨i0, hi, hz0, hz1, hz2⟩ := info_parts tap_info
  obtain ⟨g', c', cur, hvs, hgb, hblk, hnc, hcm, hcl, htk⟩ := blk_of_own hown (by omega)
  injection hvs with h1 h2 h3
  injection h1 with h1
  injection h1 with h1
  subst h1; subst h3
  have hsz : (Try.prog.info? 82).map (·.size) = some 4 := by rw [hi]; simp [hz1]
  have hgw := hblk.lt
  have hvw := hv.lt
  obtain ⟨n, hn⟩ : ∃ n, n = xs.length := ⟨_, rfl⟩
  have hki : i + (n + 1 - i) = n + 1 := by omega
  have hfl : ((xs.take i).flatMap encT).length = i * 4 := by rw [flatMap_encT_len, List.length_take, Nat.min_eq_left (by omega)]
  have hdl : ((xs.drop i).flatMap encT).length = (n - i) * 4 := by rw [flatMap_encT_len, List.length_drop, hn]
  have hsplit : xs.flatMap encT = (xs.take i).flatMap encT ++ (xs.drop i).flatMap encT := by rw [← List.flatMap_append, List.take_append_drop]
  have hcell := cells_of_take hblk htk
  have hold : (Builtin.firstCells i0.size i (.slice (some ⟨g, 0, none⟩) i n)).run Try.prog w.drew = .ok ((xs.take i).flatMap encT).toArray w.drew := by
    rw [hz1]
    exact run_firstCells_some w.drew 4 i ⟨g, 0, none⟩ i n _ hfl (fun j v hj => by
      rw [Addr.add_lit, Nat.zero_add]
      exact hcell j v (by rw [hsplit, List.getElem?_append_left (List.getElem?_eq_some_iff.1 hj).1]; exact hj))
  have hcast : ((n + 1 - i : Nat) : Int) = (n : Int) + 1 - (i : Int) := by omega
  have hrz := fun (ty : TypeId) => Lib.run_append_grow_zeros w 33 3 ty 82 i0 _ .i64 .i64 Try.underlying33 Try.underlying3 hi hz0 (some ⟨g, 0, none⟩) i n _ hold (n + 1 - i) (by omega) (by omega) (by omega) (by omega) (by rw [hz2]; omega) (by rw [hz2, hki]; exact growslice_fits (by omega) (by omega))
  simp only [hki, hcast] at hrz
  obtain ⟨G, hG⟩ : ∃ G, G = grownCap w (n + 1) n 82 := ⟨_, rfl⟩
  have hGn : n + 1 ≤ G := by rw [hG]; exact grownCap_ge w _ _ _
  have hGm : G ≤ maxLen := by rw [hG]; exact grownCap_le_maxLen w _ _ _ (by unfold maxLen; omega)
  simp only [← hG] at hrz
  obtain ⟨Z, hZ⟩ : ∃ Z, Z = (Builtin.zeroCells (Value.agg #[.int .u8 0, .int .i64 0, .int .i64 0, .int .i64 0]).cells (n + 1 - i) ++ Builtin.zeroCells (Value.agg #[.int .u8 0, .int .i64 0, .int .i64 0, .int .i64 0]).cells (G - (n + 1))).toList := ⟨_, rfl⟩
  have hZl : Z.length = (G - i) * 4 := by
    rw [hZ]
    simp [size_zeroCells, Value.cells]
    omega
  obtain ⟨ROW, hROW⟩ : ∃ ROW : List Value, ROW = (xs.take i).flatMap encT ++ Z := ⟨_, rfl⟩
  have hRl : ROW.length = G * 4 := by rw [hROW, List.length_append, hfl, hZl]; omega
  have hRt : ROW.take (i * 4) = (xs.take i).flatMap encT := by rw [hROW, ← hfl, List.take_append_of_le_length (Nat.le_refl _), List.take_length]
  obtain ⟨W1, hW1⟩ : ∃ W1, W1 = w.drew.alloc (.cells ROW.toArray 82) := ⟨_, rfl⟩
  have hrz' : ∀ ty, (Builtin.append_ #[33, 3] ty #[.slice (some ⟨g, 0, none⟩) i n, .int .i64 ((n : Int) + 1 - (i : Int))]).run Try.prog w = .ok (.slice (some ⟨w.heap.size, 0, none⟩) (n + 1) G) W1 := fun ty => by
    rw [hrz ty, hW1, hROW, hZ]
    congr 3
    simp
  have hB1 : Blk W1 w.heap.size 82 ROW.toArray := by rw [hW1]; exact Blk.new_ (w := w.drew) rfl
  have hV1 : Blk W1 vb 82 #[.int .u8 p.key, .int .i64 p.dx, .int .i64 p.dy, .int .i64 p.n] := by rw [hW1]; exact Blk.alloc (w := w.drew) hv _
  have hO1 : Blk W1 g 82 cur.toArray := by rw [hW1]; exact Blk.alloc (w := w.drew) hblk _
  have hcpA : ∀ (W : World), Blk W w.heap.size 82 ROW.toArray → Blk W vb 82 #[.int .u8 p.key, .int .i64 p.dx, .int .i64 p.dy, .int .i64 p.n] → ∀ ty dc, (Builtin.copy_ #[33, 33] ty #[.slice (some ⟨w.heap.size, i * 4, none⟩) (n + 1 - i) dc, .slice (some ⟨vb, 0, none⟩) 1 1]).run Try.prog W = .ok (goInt 1) (W.setCells w.heap.size (i * 4) (encT p)) := fun W hWN hWv ty dc =>
    run_copyN W 33 33 ty 82 w.heap.size (i * 4) (n + 1 - i) dc ⟨vb, 0, none⟩ 1 1 4 1 (encT p) Try.underlying33 hsz (by simp only [Nat.min_def]; split <;> omega) rfl
      (fun j v hj => by rw [Addr.add_lit, Nat.zero_add, hWv.cell]; simpa [encT] using hj)
      (fun j hj => by rw [hWN.cell]; simp [encT] at hj; simp; omega) (fun j _ => hWN.frozen _) (fun u hu => by simp [encT] at hu; rcases hu with rfl | rfl | rfl | rfl <;> rfl)
  have hcpB : ∀ (W : World), Blk W w.heap.size 82 (over ROW (i * 4) (encT p)).toArray → Blk W g 82 cur.toArray → ∀ ty dc sc, (Builtin.copy_ #[33, 33] ty #[.slice (some ⟨w.heap.size, (i + 1) * 4, none⟩) (n + 1 - (i + 1)) dc, .slice (some ⟨g, i * 4, none⟩) (n - i) sc]).run Try.prog W = .ok (goInt ((n - i : Nat) : Int)) (W.setCells w.heap.size ((i + 1) * 4) ((xs.drop i).flatMap encT)) := fun W hWN hWg ty dc sc =>
    run_copyN W 33 33 ty 82 w.heap.size ((i + 1) * 4) (n + 1 - (i + 1)) dc ⟨g, i * 4, none⟩ (n - i) sc 4 (n - i) _ Try.underlying33 hsz (by simp only [Nat.min_def]; split <;> omega) hdl
      (fun j v hj => by
        rw [Addr.add_lit]
        refine cells_of_take hWg htk (i * 4 + j) v ?_
        rw [hsplit, List.getElem?_append_right (by omega), hfl, Nat.add_sub_cancel_left]; exact hj)
      (fun j hj => by rw [hWN.cell]; rw [hdl] at hj; simp; rw [over_len _ _ _ (by simp [encT]; omega)]; omega) (fun j _ => hWN.frozen _) (fun u hu => encT_one _ u hu)
  have mixed : Try.prog.follows Departure.mixedOrders = true := by kernel_rfl
  have hb3 : (i : Int) ≤ (xs.length : Int) := by omega
  have htn : ((i : Int) + 1).toNat = i + 1 := by omega
  have hb1 : (0 : Int) ≤ (i : Int) + 1 := by omega
  have hw1 : IntKind.i64.wrap ((i : Int) + 1) = (i : Int) + 1 := by rw [IntKind.wrap_i64]; omega
  have hci : ¬ (n = i) := by omega
  have hGi : ¬ (G = i) := by omega
  have hGi1 : ¬ (G = i + 1) := by omega
  have hB2 : Blk (W1.setCells w.heap.size (i * 4) (encT p)) w.heap.size 82 (over ROW (i * 4) (encT p)).toArray := blk_setCells _ _ _ _ hB1 (by simp [encT]; omega)
  have hO2 : Blk (W1.setCells w.heap.size (i * 4) (encT p)) g 82 cur.toArray := (heap_setCells _ _ _ _ (by omega)).trans hO1
  clear hold hrz
  subst hn
  replace hW1 := Lib.hid hW1
  replace hROW := Lib.hid hROW
  replace hZ := Lib.hid hZ
  replace hG := Lib.hid hG
  replace hcl := Lib.hid hcl
  replace htk := Lib.hid htk
  replace hRt := Lib.hid hRt
  replace hRl := Lib.hid hRl
  replace hsplit := Lib.hid hsplit
  go_enter Try.func45, Try.ntmps45
  go_wp2_with (first
    | (at_builtin; refine Lib.wpList_append_run _ rfl _ _ _ _ rfl _ _ rfl rfl _ _ (hrz' _) ?_)
    | (at_builtin; refine wpList_copy_runI _ rfl _ _ 33 33 rfl _ _ rfl rfl (hcpA _ hB1 hV1 _ _) ?_))
  go_region_law_o (refine step_copy_runI rfl _ _ 33 33 rfl (.slice (some ⟨w.heap.size, (i + 1) * 4, none⟩) (xs.length + 1 - (i + 1)) (G - (i + 1))) (.slice (some ⟨g, i * 4, none⟩) (xs.length - i) (xs.length - i)) (by simp [Act.eval, Act.put]) (by simp [Act.eval, Act.put]) (hcpB _ (by exact hB2) (by exact hO2) 33 (G - (i + 1)) (xs.length - i)) ?_)
  go_wp2
  go_ret
  have hdr : ∀ (W : World), Below base W W.drew := fun W => ⟨rfl, rfl, rfl, Nat.le_refl _, fun _ _ => rfl⟩
  have h3 := blk_setCells ((xs.drop i).flatMap encT) ((i + 1) * 4) _ _ (show Blk (W1.setCells w.heap.size (i * 4) (encT p)).drew w.heap.size 82 _ from hB2) (by rw [hdl, over_len _ _ _ (by rw [hRl.out]; simp [encT]; omega), hRl.out]; omega)
  have hown3 := own_of_blk (base := base) (n := xs.length + 1) (cap := G) (s := 4) h3 hbase hGn hGm (by rw [over_len _ _ _ (by rw [hdl, over_len _ _ _ (by rw [hRl.out]; simp [encT]; omega), hRl.out]; omega), over_len _ _ _ (by rw [hRl.out]; simp [encT]; omega), hRl.out])
  rw [(over_ins p (Nat.le_of_lt hin) hRt.out (by rw [hRl.out]; omega)).1] at hown3
  have hbW1 : Below base w W1 := by rw [hW1.out]; exact (hdr w).alloc (by simpa using hbase) _
  refine ⟨.slice (some ⟨w.heap.size, 0, none⟩) (xs.length + 1) G, rfl, hown3, below_setCells ((below_setCells hbW1 hbase _ _).trans (hdr _)) hbase _ _, fun k hk hne => ?_, .inr ⟨_, rfl, Nat.le_refl _⟩⟩
  rw [heap_setCells _ _ _ _ (by omega)]
  show (W1.setCells w.heap.size (i * 4) (encT p)).heap[k]? = _
  rw [heap_setCells _ _ _ _ (by omega), hW1.out]
  exact Below.heap_alloc w.drew _ k hk
end Go.Proofs.Ytpjecpefbfobdaa
