/-
  The walks of layer 21: a tap put into a slice that has room (the library's Insert), and Insert at any place.
-/
import Derived.Test.YtpjecpefbfobdaaAreaIns2
namespace Go.Proofs.Ytpjecpefbfobdaa
open Go Go.RowKit

set_option maxRecDepth 100000 in
set_option maxHeartbeats 4000000 in
theorem insT_shift (g i c : Nat) (xs : List Tp) (p : Tp) (base vb : Nat) (w : World) (hown : w.ownsRow base 82 4 (.slice (some ⟨g, 0, none⟩) xs.length c) xs.length (xs.flatMap encT)) (hin : i < xs.length) (hroom : xs.length + 1 ≤ c)
    (hv : Blk w vb 82 #[.int .u8 p.key, .int .i64 p.dx, .int .i64 p.dy, .int .i64 p.n]) (hvg : vb ≠ g) (hl : xs.length ≤ 65536) :
    Calls Try.prog 45 #[.slice (some ⟨g, 0, none⟩) xs.length c, .int .i64 i, .slice (some ⟨vb, 0, none⟩) 1 1] w fun e w' => ∃ v', e = .returned v' ∧ w'.ownsRow base 82 4 v' (xs.length + 1) ((insAt xs i p).flatMap encT) ∧ Below base w w' ∧ Apps w w' (.slice (some ⟨g, 0, none⟩) xs.length c) v' := by
  obtain ⟨i0, hi, hz0, hz1, hz2⟩ := info_parts tap_info
  obtain ⟨g', c', cur, hvs, hgb, hblk, hnc, hcm, hcl, htk⟩ := blk_of_own hown (by omega)
  injection hvs with h1 h2 h3
  injection h1 with h1
  injection h1 with h1
  subst h1; subst h3
  have hsz : (Try.prog.info? 82).map (·.size) = some 4 := by rw [hi]; simp [hz1]
  have hszr : ∀ w, (Go.sizeOf 82).run Try.prog w = .ok 4 w := fun w => by simp [sizeOf, typeInfo, hi, hz1]
  have hcm' := hcm
  unfold maxLen at hcm'
  have hgw := hblk.lt
  have hvw := hv.lt
  have hfl : ((xs.take i).flatMap encT).length = i * 4 := by rw [flatMap_encT_len, List.length_take, Nat.min_eq_left (by omega)]
  have hdl : ((xs.drop i).flatMap encT).length = (xs.length - i) * 4 := by rw [flatMap_encT_len, List.length_drop]
  have hsplit : xs.flatMap encT = (xs.take i).flatMap encT ++ (xs.drop i).flatMap encT := by rw [← List.flatMap_append, List.take_append_drop]
  have htki : cur.take (i * 4) = (xs.take i).flatMap encT := by
    have : cur.take (i * 4) = (cur.take (xs.length * 4)).take (i * 4) := by rw [List.take_take, Nat.min_eq_left (by omega)]
    rw [this, htk, hsplit, ← hfl, List.take_append_of_le_length (Nat.le_refl _), List.take_length]
  have hov : ∀ lb cb, (callFunc 60 #[.slice (some ⟨vb, 0, none⟩) 1 1, .slice (some ⟨g, (i + 1) * 4, none⟩) lb cb]).run Try.prog w = .ok (.value (.bool false)) w := fun lb cb => by
    rw [run_callFunc_extern Try.func60 (by kernel_rfl) (by kernel_rfl) (by kernel_rfl) (e := Extern.SlicesOverlaps.overlaps #[33, 33] #[4]) (by kernel_rfl),
      Lib.run_overlaps_apart w 33 4 82 Try.underlying33 4 hszr ⟨vb, 0, none⟩ ⟨g, (i + 1) * 4, none⟩ 1 1 lb cb hvg 82 82 4 cur.length (by unfold Blk at hv; simp [World.shape?, hv]) (by unfold Blk at hblk; simp [World.shape?, hblk]) (by omega) (hv.frozen _) (hv.frozen _)]
    rfl
  have hcp1 : ∀ (W : World), Blk W g 82 cur.toArray → ∀ ty dc sc, (Builtin.copy_ #[33, 33] ty #[.slice (some ⟨g, (i + 1) * 4, none⟩) (xs.length + 1 - (i + 1)) dc, .slice (some ⟨g, i * 4, none⟩) (xs.length + 1 - i) sc]).run Try.prog W = .ok (goInt ((xs.length - i : Nat) : Int)) (W.setCells g ((i + 1) * 4) ((xs.drop i).flatMap encT)) := fun W hWg ty dc sc =>
    run_copyN W 33 33 ty 82 g ((i + 1) * 4) (xs.length + 1 - (i + 1)) dc ⟨g, i * 4, none⟩ (xs.length + 1 - i) sc 4 (xs.length - i) _ Try.underlying33 hsz (by simp only [Nat.min_def]; split <;> omega) hdl
      (fun j v hj => by
        rw [Addr.add_lit]
        refine cells_of_take hWg htk (i * 4 + j) v ?_
        rw [hsplit, List.getElem?_append_right (by omega), hfl, Nat.add_sub_cancel_left]; exact hj)
      (fun j hj => by rw [hWg.cell]; rw [hdl] at hj; simp; omega) (fun j _ => hWg.frozen _) (fun u hu => encT_one _ u hu)
  have hcp2 : ∀ (W : World), Blk W g 82 (over cur ((i + 1) * 4) ((xs.drop i).flatMap encT)).toArray → Blk W vb 82 #[.int .u8 p.key, .int .i64 p.dx, .int .i64 p.dy, .int .i64 p.n] → ∀ ty dc, (Builtin.copy_ #[33, 33] ty #[.slice (some ⟨g, i * 4, none⟩) (xs.length + 1 - i) dc, .slice (some ⟨vb, 0, none⟩) 1 1]).run Try.prog W = .ok (goInt 1) (W.setCells g (i * 4) (encT p)) := fun W hWN hWv ty dc =>
    run_copyN W 33 33 ty 82 g (i * 4) (xs.length + 1 - i) dc ⟨vb, 0, none⟩ 1 1 4 1 (encT p) Try.underlying33 hsz (by simp only [Nat.min_def]; split <;> omega) rfl
      (fun j v hj => by rw [Addr.add_lit, Nat.zero_add, hWv.cell]; simpa [encT] using hj)
      (fun j hj => by rw [hWN.cell]; simp [encT] at hj; simp; rw [over_len _ _ _ (by rw [hdl]; omega)]; omega) (fun j _ => hWN.frozen _) (fun u hu => by simp [encT] at hu; rcases hu with rfl | rfl | rfl | rfl <;> rfl)
  have mixed : Try.prog.follows Departure.mixedOrders = true := by kernel_rfl
  have hz2 : ¬ ((i : Int) = (xs.length : Int)) := by omega
  have hz3 : ¬ ((c : Int) < (xs.length : Int) + 1) := by omega
  have hz4 : (xs.length : Int) + 1 ≤ (c : Int) := by omega
  have hz5 : ((xs.length : Int) + 1).toNat = xs.length + 1 := by omega
  have hwn : IntKind.i64.wrap ((xs.length : Int) + 1) = (xs.length : Int) + 1 := by rw [IntKind.wrap_i64]; omega
  have hb3 : (i : Int) ≤ (xs.length : Int) := by omega
  have hb4 : (i : Int) ≤ (xs.length : Int) + 1 := by omega
  have htn : ((i : Int) + 1).toNat = i + 1 := by omega
  have hb1 : (0 : Int) ≤ (i : Int) + 1 := by omega
  have hw1 : IntKind.i64.wrap ((i : Int) + 1) = (i : Int) + 1 := by rw [IntKind.wrap_i64]; omega
  have hci : ¬ (c = i) := by omega
  have hci1 : ¬ (c = i + 1) := by omega
  have hB2 : Blk (w.drew.setCells g ((i + 1) * 4) ((xs.drop i).flatMap encT)) g 82 (over cur ((i + 1) * 4) ((xs.drop i).flatMap encT)).toArray := blk_setCells _ _ _ _ hblk (by rw [hdl]; omega)
  have hV2 : Blk (w.drew.setCells g ((i + 1) * 4) ((xs.drop i).flatMap encT)) vb 82 #[.int .u8 p.key, .int .i64 p.dx, .int .i64 p.dy, .int .i64 p.n] := (heap_setCells _ _ _ _ hvg).trans hv
  replace hcl := Lib.hid hcl
  replace htk := Lib.hid htk
  replace htki := Lib.hid htki
  replace hsplit := Lib.hid hsplit
  replace hfl := Lib.hid hfl
  replace hdl := Lib.hid hdl
  go_enter Try.func45, Try.ntmps45
  go_wp2_with (simp only [hov])
  go_region_law_o (refine step_copy_runI rfl _ _ 33 33 rfl (.slice (some ⟨g, (i + 1) * 4, none⟩) (xs.length + 1 - (i + 1)) (c - (i + 1))) (.slice (some ⟨g, i * 4, none⟩) (xs.length + 1 - i) (c - i)) (by simp [Act.eval, Act.put]) (by simp [Act.eval, Act.put]) (hcp1 _ (by exact hblk) 3 (c - (i + 1)) (c - i)) ?_)
  go_wp2_with (at_builtin; refine wpList_copy_runI _ rfl _ _ 33 33 rfl _ _ rfl rfl (hcp2 _ (by exact hB2) (by exact hV2) _ _) ?_)
  go_ret
  have hdr : ∀ (W : World), Below base W W.drew := fun W => ⟨rfl, rfl, rfl, Nat.le_refl _, fun _ _ => rfl⟩
  have h3 := blk_setCells (encT p) (i * 4) _ _ hB2 (by rw [over_len _ _ _ (by rw [hdl.out, hcl.out]; omega), hcl.out]; simp [encT]; omega)
  have hown3 := own_of_blk (base := base) (n := xs.length + 1) (cap := c) (s := 4) h3 hgb hroom hcm (by rw [over_len _ _ _ (by rw [over_len _ _ _ (by rw [hdl.out, hcl.out]; omega), hcl.out]; simp [encT]; omega), over_len _ _ _ (by rw [hdl.out, hcl.out]; omega), hcl.out])
  rw [(over_ins p (Nat.le_of_lt hin) htki.out (by rw [hcl.out]; omega)).2] at hown3
  refine ⟨.slice (some ⟨g, 0, none⟩) (xs.length + 1) c, rfl, hown3, below_setCells (below_setCells (hdr _) hgb _ _) hgb _ _, fun k hk hne => ?_, .inl rfl⟩
  have hkg : k ≠ g := fun e => hne (by rw [e]; rfl)
  rw [heap_setCells _ _ _ _ hkg, heap_setCells _ _ _ _ hkg]
  rfl

/-- Insert at any place, one tap. -/
theorem insT_any (A : Option Addr) (c : Nat) (xs : List Tp) (p : Tp) (i base vb : Nat) (w : World) (hown : w.ownsRow base 82 4 (.slice A xs.length c) xs.length (xs.flatMap encT)) (hnc : xs.length ≤ c) (hcm : c ≤ maxLen) (hin : i ≤ xs.length)
    (hv : Blk w vb 82 #[.int .u8 p.key, .int .i64 p.dx, .int .i64 p.dy, .int .i64 p.n]) (hvg : (Value.slice A xs.length c).ownBlock ≠ some vb) (hbase : base ≤ w.heap.size) (hl : xs.length ≤ 65536) :
    Calls Try.prog 45 #[.slice A xs.length c, .int .i64 i, .slice (some ⟨vb, 0, none⟩) 1 1] w fun e w' => ∃ v', e = .returned v' ∧ w'.ownsRow base 82 4 v' (xs.length + 1) ((insAt xs i p).flatMap encT) ∧ Below base w w' ∧ Apps w w' (.slice A xs.length c) v' := by
  by_cases hi : i = xs.length
  · subst hi
    have := insT_end A c xs p base vb w hown hnc hcm hv hbase hl
    simpa [insAt] using this
  · obtain ⟨g, c', cur, hvs, hgb, hblk, _, _, hcl, htk⟩ := blk_of_own hown (by omega)
    injection hvs with h1 h2 h3
    subst h1; subst h3
    by_cases hc : c = xs.length
    · subst hc
      exact insT_grow g i xs p base vb w hown (by omega) hv hbase hl
    · exact insT_shift g i c xs p base vb w hown (by omega) (by omega) hv (fun e => hvg (by rw [e]; rfl)) hl
end Go.Proofs.Ytpjecpefbfobdaa
