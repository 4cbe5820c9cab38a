/-
  The walks of layers 05 and 08: whether a scheme is sound, by the program.
-/
import Derived.Test.YtfpnhgahkjglgaaGreatF15
import Derived.Test.YtfpnhgahkjglgaaGreatF06
import Derived.Test.YtfpnhgahkjglgaaGreatF14
import Derived.WalkSpells
import Derived.Laws.BitsAllLaws
set_option maxRecDepth 100000
namespace Go.Proofs.YtfpnhgahkjglgaaGreat
open Go Go.RowKit
def cmpF (xs ys : List Int) : Int := if xs.length = ys.length then cmpL xs ys else (xs.length : Int) - ys.length
set_option maxHeartbeats 4000000 in
theorem compare05_any (A B : Option Addr) (xs ys : List Int) (c d : Nat) (w : World) (hx : SlR 1 RInt w A xs) (hy : SlR 1 RInt w B ys) (hl : xs.length ≤ 65536) (hl2 : ys.length ≤ 65536) :
 Calls Tryz.prog 89 #[.slice A xs.length c, .slice B ys.length d] w fun e w' => e = .returned (.int .i64 (cmpF xs ys)) ∧ w = w' := by
 have h1 : (0 : Int) ≤ xs.length ∧ (xs.length : Int) ≤ 65536 := by omega
 have h2 : (0 : Int) ≤ ys.length ∧ (ys.length : Int) ≤ 65536 := by omega
 have hm : (65536 : Nat) ≤ maxLen := by unfold maxLen; omega
 have hlm : xs.length ≤ maxLen := by omega
 have hlm2 : ys.length ≤ maxLen := by omega
 clear hm
 by_cases h : xs.length = ys.length
 ·have hi : (xs.length : Int) = (ys.length : Int) := by omega
  have HCF : Hid (cmpF xs ys = cmpL xs ys) := if_pos h
  clear h
  go_enter Tryz.func89, Tryz.ntmps89
  go_wp2_with (go_at_call 114; go_loud (refine (compare_any A B xs ys c d w hx hy hlm hlm2).mono ?_; rintro e w' ⟨rfl, rfl⟩))
  go_ret
  exact ⟨by rw [HCF.out]; rfl, rfl⟩
 ·have hi : ¬ (xs.length : Int) = (ys.length : Int) := by omega
  have HCF : Hid (cmpF xs ys = (xs.length : Int) - ys.length) := if_neg h
  clear h
  go_enter Tryz.func89, Tryz.ntmps89
  go_wp2_with fail
  go_ret
  exact ⟨by rw [HCF.out]; rfl, rfl⟩
theorem IsB.and {v u : Int} {f g : Int → Bool} (h : IsB v f) (k : IsB u g) : IsB ((v.toNat &&& u.toNat : Nat) : Int) (fun m => f m && g m) := by
 have h1 : v.toNat &&& u.toNat ≤ v.toNat := Nat.and_le_left
 have h2 := h.1
 refine ⟨by omega, fun m h3 h4 => ?_⟩
 rw [Int.toNat_natCast, Nat.testBit_and, h.2 m h3 h4, k.2 m h3 h4]
def HasEnd (s : Sc) (k : Int) : Prop := ∃ m : Int, (0 ≤ m ∧ m < k) ∧ RM s m ∧ LV s m ∧ Mt s m m
def IsEnd (s : Sc) (w : World) (e : Ending) (w' : World) : Prop := (∃ (B : Option Addr) (L : List Int) (d : Nat), e = .returned (.slice B L.length d) ∧ L.length ≤ 9 ∧ (L ≠ [] ↔ HasEnd s s.n)) ∧ Below w.heap.size w w'
theorem chn_val {s : Sc} {m : Int} {w : World} {e : Ending} {w' : World} (h : IsChn s m w e w') : (∃ (B : Option Addr) (L : List Int) (d : Nat), e = .returned (.slice B L.length d) ∧ SlR 1 RInt w' B L ∧ L.length ≤ 9 ∧ ((B = none ∧ L = [] ∧ d = 0 ∧ ¬ Mt s m m) ∨ (∃ a x t, B = some a ∧ L = x :: t ∧ Mt s m m))) ∧ Below w.heap.size w w' := by
 obtain ⟨h | h, hb⟩ := h
 ·obtain ⟨g, L, d, rfl, h1, _, h3, h4⟩ := h
  refine ⟨⟨some g, L, d, rfl, h3, h1.2, .inr ?_⟩, hb⟩
  rcases L with _ | ⟨x, t⟩
  ·simp at h1
  ·exact ⟨_, _, _, rfl, rfl, h4⟩
 ·obtain ⟨rfl, h⟩ := h
  exact ⟨⟨none, [], 0, rfl, fun h => absurd rfl h, by simp, .inl ⟨rfl, rfl, rfl, h⟩⟩, hb⟩
theorem pth_mono {E : List (Int × Int)} {F G : Int → Prop} {x : Int} (h : Pth E F x) (hf : ∀ a, F a → G a) : Pth E G x := by
 induction h with
 | base h => exact .base (hf _ h)
 | step _ h2 ih => exact .step ih h2
theorem rm_iff {s : Sc} (h : ScOK s) {m : Int} : cloN s.edges (fun m => decide (m = 0)) s.n.toNat m = true ↔ RM s m := by
 have hn := h.1
 rw [cloN_iff (fun e he => by
  obtain ⟨r, hr, rfl⟩ := List.mem_map.1 he
  have := (h.2.2.2.1 r hr).1
  show 0 ≤ r.to ∧ r.to < _
  omega)]
 unfold RM
 exact ⟨fun h => pth_mono h fun a ha => of_decide_eq_true ha, fun h => pth_mono h fun a ha => decide_eq_true ha⟩
theorem lv_clo {s : Sc} (h : ScOK s) {m : Int} : cloN s.backs (accB s.acc) s.n.toNat m = true ↔ LV s m := by
 have hn := h.1
 rw [cloN_iff (fun e he => by
  obtain ⟨r, hr, rfl⟩ := List.mem_map.1 he
  have := (h.2.2.2.1 r hr).1
  show 0 ≤ r.fr ∧ r.fr < _
  omega)]
 exact Iff.rfl
theorem end_no {s : Sc} {k : Nat} (h : ¬ (RM s k ∧ LV s k ∧ Mt s k k)) : HasEnd s (k : Int) ↔ HasEnd s ((k + 1 : Nat) : Int) := by
 constructor
 ·rintro ⟨m, h1, h2⟩
  exact ⟨m, by omega, h2⟩
 ·rintro ⟨m, h1, h2⟩
  by_cases e : m = (k : Int)
  ·subst e
   exact absurd h2 h
  ·exact ⟨m, by omega, h2⟩
theorem end_yes {s : Sc} {k : Nat} (h : RM s k ∧ LV s k ∧ Mt s k k) : HasEnd s ((k + 1 : Nat) : Int) := ⟨k, by omega, h⟩
set_option maxHeartbeats 8000000 in
theorem endless05_any (s : Sc) (A : Option Addr) (c : Nat) (w : World) (hs : ScIn w s A c) (hok : ScOK s) :
 Calls Tryz.prog 56 #[.agg #[.int .i64 s.n, .int .u8 s.acc, .slice A s.rs.length c]] w (IsEnd s w) := by
 obtain ⟨w1, hw1⟩ : ∃ w1, w.alloc (.cells #[.int .i64 s.n, .int .u8 s.acc, .slice A s.rs.length c] 30) = w1 := ⟨_, rfl⟩
 have hb1 : Below w.heap.size w w1 := by rw [← hw1]; exact nw _ (Below.refl _ _)
 have hB : Blk w1 w.heap.size 30 #[.int .i64 s.n, .int .u8 s.acc, .slice A s.rs.length c] := by rw [← hw1]; exact Blk.new _ _ _
 have HW1 := Lib.hid hw1
 have HB1 := Lib.hid hb1
 have HCE : Hid (∀ W, Below w1.heap.size w1 W → W.cell? ⟨w.heap.size, 0, none⟩ = some (.int .i64 s.n) ∧ W.cell? ⟨w.heap.size, 1, none⟩ = some (.int .u8 s.acc) ∧ W.cell? ⟨w.heap.size, 2, none⟩ = some (.slice A s.rs.length c) ∧ w.heap.size < W.heap.size) := fun W hW => by
  have e1 := hB.below hW hB.lt
  exact ⟨by rw [e1.cell]; rfl, by rw [e1.cell]; rfl, by rw [e1.cell]; rfl, e1.lt⟩
 obtain ⟨b0, b1, b2, bl⟩ := HCE.out _ (Below.refl _ _)
 clear hw1 hb1 hB
 have HS := Lib.hid hs
 have HOK := Lib.hid hok
 have hn := hok.1
 clear hs hok
 go_enter Tryz.func56, Tryz.ntmps56
 go_upto_region 1 with fail
 rw [HW1.out]
 refine ordB_below (.quiet 0 (.quiet 2 (.only 1 (.only 3 (.quiet 4 (.quiet 5 .done)))))) (by kernel_rfl) (by kernel_rfl) (by kernel_rfl) (fun _ _ _ _ _ h => h) ?_
 intro Wa hWa
 iterate 2 ((first | refine ordB_skip rfl rfl ?_ | (refine ordB_take (v := ?_) rfl rfl ?_ ?_; rotate_left 1; (focus (intro W hW; obtain ⟨hcW, hfW⟩ := bcell hW; (go_simp <;> with_reducible rfl))))); simp only [Act.put, zA, zB, zC])
 refine ordB_only (opB_call rfl rfl (fun K hK => ?_))
 go_simp
 go_at_call 55
 refine (reached05_any s A c Wa (HS.out.below (bthen HB1.out hWa)) HOK.out).mono ?_
 rintro e Wa_1 ⟨⟨va, rfl, hva⟩, hxa⟩
 refine hK.out _ _ (hWa.trans (hxa.mono hWa.size)) (fun hWa_1 => ?_)
 refine ordB_only (opB_call rfl rfl (fun K hK => ?_))
 go_simp
 go_at_call 53
 refine (live05_any s A c Wa_1 (HS.out.below (bthen HB1.out hWa_1)) HOK.out).mono ?_
 rintro e Wa_1_2 ⟨⟨vb, rfl, hvb⟩, hxb⟩
 refine hK.out _ _ (hWa_1.trans (hxb.mono hWa_1.size)) (fun hWa_1_2 => ?_)
 iterate 2 ((first | refine ordB_skip rfl rfl ?_ | (refine ordB_take (v := ?_) rfl rfl ?_ ?_; rotate_left 1; (focus (intro W hW; obtain ⟨hcW, hfW⟩ := bcell hW; (go_simp <;> with_reducible rfl))))); simp only [Act.put, zA, zB, zC])
 refine ordB_nil ?_
 have hbA := hWa_1_2
 clear hWa_1_2
 have ha := IsB.and hva hvb
 have hva1 := hva.1
 have hvb1 := hvb.1
 have hab := (bits_u8 va vb hva1 hvb1).1
 have HBA := Lib.hid hbA
 obtain ⟨wA, hwA⟩ : ∃ W, Wa_1_2 = W := ⟨_, rfl⟩
 rw [hwA] at HBA ⊢
 clear hwA hxa hxb hbA b0 b1 b2 bl
 obtain ⟨b0, b1, b2, bl⟩ := HCE.out _ HBA.out
 go_wp2_with fail
 rw [hab]
 obtain ⟨vl, hvl⟩ : ∃ z : Int, ((va.toNat &&& vb.toNat : Nat) : Int) = z := ⟨_, rfl⟩
 rw [hvl] at ha ⊢
 have HBI : Hid (∀ m : Int, 0 ≤ m → m < 8 → (vl.toNat.testBit m.toNat = true ↔ RM s m ∧ LV s m)) := fun m h1 h2 => by rw [ha.2 m h1 h2, Bool.and_eq_true, rm_iff HOK.out, lv_clo HOK.out]
 have hvl8 := ha.1
 clear hva hvb hva1 hvb1 ha hab hvl
 go_loopw [4, 14] (fun lv iv wr => ∃ (L : List Int) (B : Option Addr) (d k : Nat), k ≤ s.n.toNat ∧ Hid (SlR 1 RInt wr B L ∧ (B = none → L = [] ∧ d = 0) ∧ ((∃ a, B = some a) → L ≠ []) ∧ (L ≠ [] ↔ HasEnd s k)) ∧ L.length ≤ 9 ∧ lv = .slice B L.length d ∧ iv = .int .i64 (k : Int) ∧ Below w1.heap.size w1 wr) (fun _ iv _ => s.n.toNat - (intOf iv).toNat)
 case atStart => exact ⟨[], none, 0, 0, by omega, ⟨fun h => absurd rfl h, fun _ => ⟨rfl, rfl⟩, ⟨fun ⟨a, h⟩ => (by cases h), ⟨fun h => absurd rfl h, fun ⟨m, h, _⟩ => absurd h (by omega)⟩⟩⟩, by simp, rfl, rfl, HBA.out⟩
 case round =>
  obtain ⟨wR, rfl⟩ : ∃ W, W = wr := ⟨wr, rfl⟩
  obtain ⟨L, B, d, k, hk, HL, hL9, rfl, rfl, hbr⟩ := hrel
  have HBR := Lib.hid hbr
  clear hbr b0 b1 b2 bl
  obtain ⟨b0, b1, b2, bl⟩ := HCE.out _ HBR.out
  by_cases hlt : k < s.n.toNat
  ·have hji : (k : Int) < s.n := by omega
   have hk8 : 0 ≤ (k : Int) ∧ (k : Int) < 8 := by omega
   have hkn : 0 ≤ (k : Int) ∧ (k : Int) < s.n := by omega
   obtain ⟨k1, hk1⟩ : ∃ k1 : Nat, k1 = k + 1 := ⟨_, rfl⟩
   have HK1 := Lib.hid hk1
   have hki1 : (k : Int) + 1 = (k1 : Int) := by omega
   clear hk1
   by_cases hb : vl.toNat.testBit (k : Int).toNat = true
   ·have hbt := hb
    simp only [Int.toNat_natCast] at hbt
    have hp := pow8 hk8
    have HRL := Lib.hid ((HBI.out (k : Int) hk8.1 hk8.2).1 hb)
    clear hb
    go_wp2_with (go_at_call 54; go_loud (refine (has_any vl (k : Int) _ hvl8 hk8).mono ?_; rintro e w' ⟨rfl, rfl⟩))
    refine ordB_below (.quiet 0 (.quiet 1 (.quiet 2 (.only 3 (.only 4 (.quiet 5 .done)))))) (by kernel_rfl) (by kernel_rfl) (by kernel_rfl) (fun _ _ _ _ _ h => h) ?_
    intro Wb hWb
    iterate 3 ((first | refine ordB_skip rfl rfl ?_ | (refine ordB_take (v := ?_) rfl rfl ?_ ?_; rotate_left 1; (focus (intro W hW; obtain ⟨hcW, hfW⟩ := bcell hW; (go_simp <;> with_reducible rfl))))); simp only [Act.put, zA, zB, zC])
    refine ordB_only (opB_call rfl rfl (fun K hK => ?_))
    go_simp
    go_at_call 86
    refine (one_any (k : Int) Wb hk8).mono ?_
    rintro e w' ⟨rfl, rfl⟩
    refine hK.out _ _ hWb (fun hWb_1 => ?_)
    refine ordB_only (opB_call rfl rfl (fun K hK => ?_))
    go_simp
    go_at_call 87
    refine ((first05_any s A c (k : Int) Wb (HS.out.below (bthen HB1.out (bthen HBR.out hWb_1))) HOK.out hkn).mono fun _ _ h => chn_val h).mono ?_
    rintro e Wb_2 ⟨⟨B2, L2, d2, rfl, hS2, hL2, hor2⟩, hxc⟩
    refine hK.out _ _ (hWb_1.trans (hxc.mono hWb_1.size)) (fun hWb_1_2 => ?_)
    iterate 1 ((first | refine ordB_skip rfl rfl ?_ | (refine ordB_take (v := ?_) rfl rfl ?_ ?_; rotate_left 1; (focus (intro W hW; obtain ⟨hcW, hfW⟩ := bcell hW; (go_simp <;> with_reducible rfl))))); simp only [Act.put, zA, zB, zC])
    refine ordB_nil ?_
    have hbC := hWb_1_2
    clear hWb_1_2
    obtain ⟨wC, hwC⟩ : ∃ W, Wb_2 = W := ⟨_, rfl⟩
    rw [hwC] at hS2 hbC ⊢
    have HCB := Lib.hid hbC
    have HBC := Lib.hid (bthen HBR.out hbC)
    have HS2 := Lib.hid hS2
    clear hwC hxc hbC hS2 b0 b1 b2 bl
    obtain ⟨b0, b1, b2, bl⟩ := HCE.out _ HBC.out
    rcases hor2 with ⟨rfl, rfl, rfl, hno⟩ | ⟨a2, x2, t2, rfl, rfl, hmt⟩
    ·have HNO := Lib.hid hno
     clear hno
     go_wp2_with fail
     go_roundw
     case rel => exact ⟨L, B, d, k1, by have := HK1.out; omega, ⟨HL.out.1.below keeps_int HCB.out, HL.out.2.1, HL.out.2.2.1, HL.out.2.2.2.trans (by rw [HK1.out]; exact end_no (fun h => HNO.out h.2.2))⟩, hL9, rfl, rfl, HBC.out⟩
     case measure => have := HK1.out; simp [intOf]; omega
    have HMT := Lib.hid hmt
    clear hmt
    have hnil2 := run_neq_slice_nil_any (P := Tryz.prog) wC 99 3 (some a2) (x2 :: t2).length d2 0 0 Tryz.underlying99
    rcases B with _ | bB
    ·obtain ⟨rfl, rfl⟩ := HL.out.2.1 rfl
     have hnil3 := Lib.run_eql_slice_nil (P := Tryz.prog) wC 99 3 none 0 0 0 0 Tryz.underlying99
     go_wp2_with fail
     go_roundw
     case rel => exact ⟨x2 :: t2, some a2, d2, k1, by have := HK1.out; omega, ⟨HS2.out, fun h => (by cases h), fun _ h => (by cases h), ⟨fun _ => by rw [HK1.out]; exact end_yes ⟨HRL.out.1, HRL.out.2, HMT.out⟩, fun _ h => (by cases h)⟩⟩, hL2, rfl, rfl, HBC.out⟩
     case measure => have := HK1.out; simp [intOf]; omega
    ·have hnil3 := Lib.run_eql_slice_nil (P := Tryz.prog) wC 99 3 (some bB) L.length d 0 0 Tryz.underlying99
     have HCM : Hid (∀ W, Below wC.heap.size wC W → Calls Tryz.prog 89 #[.slice (some a2) (x2 :: t2).length d2, .slice (some bB) L.length d] W fun e w' => e = .returned (.int .i64 (cmpF (x2 :: t2) L)) ∧ W = w') := fun W hW => compare05_any _ _ _ _ _ _ W (HS2.out.below keeps_int hW) ((HL.out.1.below keeps_int HCB.out).below keeps_int hW) (by omega) (by omega)
     obtain ⟨z, hz⟩ : ∃ z, cmpF (x2 :: t2) L = z := ⟨_, rfl⟩
     rw [hz] at HCM
     clear hz
     by_cases hz0 : z < 0
     ·skip
      go_wp2_with (go_at_call 89; go_loud (refine (HCM.out _ (Below.refl _ _)).mono ?_; rintro e w' ⟨rfl, rfl⟩))
      go_roundw
      case rel => exact ⟨x2 :: t2, some a2, d2, k1, by have := HK1.out; omega, ⟨HS2.out, fun h => (by cases h), fun _ h => (by cases h), ⟨fun _ => by rw [HK1.out]; exact end_yes ⟨HRL.out.1, HRL.out.2, HMT.out⟩, fun _ h => (by cases h)⟩⟩, hL2, rfl, rfl, HBC.out⟩
      case measure => have := HK1.out; simp [intOf]; omega
     ·go_wp2_with (go_at_call 89; go_loud (refine (HCM.out _ (Below.refl _ _)).mono ?_; rintro e w' ⟨rfl, rfl⟩))
      go_roundw
      case rel => exact ⟨L, some bB, d, k1, by have := HK1.out; omega, ⟨HL.out.1.below keeps_int HCB.out, HL.out.2.1, HL.out.2.2.1, ⟨fun _ => by rw [HK1.out]; exact end_yes ⟨HRL.out.1, HRL.out.2, HMT.out⟩, fun _ => HL.out.2.2.1 ⟨_, rfl⟩⟩⟩, hL9, rfl, rfl, HBC.out⟩
      case measure => have := HK1.out; simp [intOf]; omega
   ·have hbf : vl.toNat.testBit (k : Int).toNat = false := by simpa using hb
    have HBF := Lib.hid hbf
    clear hb
    simp only [Int.toNat_natCast] at hbf
    go_wp2_with (go_at_call 54; go_loud (refine (has_any vl (k : Int) _ hvl8 hk8).mono ?_; rintro e w' ⟨rfl, rfl⟩))
    go_roundw
    case rel => exact ⟨L, B, d, k1, by have := HK1.out; omega, ⟨HL.out.1, HL.out.2.1, HL.out.2.2.1, HL.out.2.2.2.trans (by rw [HK1.out]; exact end_no (fun h => by
     have h1 := (HBI.out (k : Int) hk8.1 hk8.2).2 ⟨h.1, h.2.1⟩
     rw [HBF.out] at h1
     cases h1))⟩, hL9, rfl, rfl, HBR.out⟩
    case measure => have := HK1.out; simp [intOf]; omega
  ·obtain rfl : k = s.n.toNat := by omega
   have hji : ¬ ((s.n.toNat : Nat) : Int) < s.n := by omega
   go_wp2_with fail
   go_ret
   exact ⟨⟨B, L, d, rfl, hL9, HL.out.2.2.2.trans (by rw [show ((s.n.toNat : Nat) : Int) = s.n by omega])⟩, bthen HB1.out HBR.out⟩
theorem IsB.dif {v u : Int} {f g : Int → Bool} (h : IsB v f) (k : IsB u g) : IsB ((v.toNat &&& (255 - u.toNat) : Nat) : Int) (fun m => f m && !g m) := by
 have h1 : v.toNat &&& (255 - u.toNat) ≤ v.toNat := Nat.and_le_left
 have h2 := h.1
 have h5 := k.1
 refine ⟨by omega, fun m h3 h4 => ?_⟩
 rw [Int.toNat_natCast, Nat.testBit_and, h.2 m h3 h4, show 255 - u.toNat = 2 ^ 8 - (u.toNat + 1) by omega, Nat.testBit_two_pow_sub_succ (by omega), k.2 m h3 h4, decide_eq_true (by omega : m.toNat < 8), Bool.true_and]
theorem isB_nz {v : Int} {f : Int → Bool} (h : IsB v f) : v = 0 ↔ ∀ m : Int, 0 ≤ m → m < 8 → f m = false := by
 constructor
 ·rintro rfl m h1 h2
  rw [← h.2 m h1 h2]
  simp
 ·intro hf
  have h1 := h.1
  refine Classical.byContradiction fun hv => ?_
  obtain ⟨i, hi⟩ := Nat.exists_testBit_of_ne_zero (x := v.toNat) (by omega)
  have hi8 : i < 8 := Classical.byContradiction fun h8 => by
   rw [Nat.testBit_lt_two_pow (Nat.lt_of_lt_of_le (by omega : v.toNat < 2 ^ 8) (Nat.pow_le_pow_right (by omega) (by omega)))] at hi
   cases hi
  have := hf i (by omega) (by omega)
  rw [← h.2 i (by omega) (by omega), Int.toNat_natCast, hi] at this
  cases this
theorem rm_range {s : Sc} (h : ScOK s) {m : Int} (hm : RM s m) : 0 ≤ m ∧ m < s.n := by
 have hn := h.1
 unfold RM at hm
 cases hm with
 | base h0 => rw [h0]; omega
 | step _ h2 =>
  obtain ⟨r, hr, rfl⟩ := List.mem_map.1 h2
  have := (h.2.2.2.1 r hr).1
  show 0 ≤ r.to ∧ r.to < _
  omega
open Classical in
noncomputable def soundE (s : Sc) : Int := if ¬ ScOK s then 20 else if ¬ LV s 0 then 50 else if ∃ m, RM s m ∧ ¬ LV s m then 40 else if HasEnd s s.n then 41 else 0
theorem soundE_iff {s : Sc} : soundE s = 0 ↔ ScOK s ∧ SoundP s := by
 unfold soundE
 by_cases h1 : ScOK s
 ·rw [if_neg (fun h => h h1)]
  by_cases h2 : LV s 0
  ·rw [if_neg (fun h => h h2)]
   by_cases h3 : ∃ m, RM s m ∧ ¬ LV s m
   ·rw [if_pos h3]
    obtain ⟨m, h4, h5⟩ := h3
    exact ⟨fun h => by omega, fun h => absurd (h.2.stuck m h4) h5⟩
   ·rw [if_neg h3]
    have h6 : ∀ m, RM s m → LV s m := fun m hm => Classical.byContradiction fun h => h3 ⟨m, hm, h⟩
    by_cases h4 : HasEnd s s.n
    ·rw [if_pos h4]
     obtain ⟨m, _, h7, h8, h9⟩ := h4
     exact ⟨fun h => by omega, fun h => absurd h9 (h.2.endl m h7 h8)⟩
    ·rw [if_neg h4]
     exact ⟨fun _ => ⟨h1, h2, h6, fun m h7 h8 h9 => h4 ⟨m, rm_range h1 h7, h7, h8, h9⟩⟩, fun _ => rfl⟩
  ·rw [if_pos h2]
   exact ⟨fun h => by omega, fun h => absurd h.2.live h2⟩
 ·rw [if_pos h1]
  exact ⟨fun h => by omega, fun h => absurd h.1 h1⟩
set_option maxHeartbeats 8000000 in
theorem sound05_any (s : Sc) (A : Option Addr) (c : Nat) (w : World) (hs : ScIn w s A c) :
 Calls Tryz.prog 26 #[.agg #[.int .i64 s.n, .int .u8 s.acc, .slice A s.rs.length c]] w fun e w' => e = .returned (.int .i64 (soundE s)) ∧ Below w.heap.size w w' := by
 obtain ⟨w1, hw1⟩ : ∃ w1, w.alloc (.cells #[.int .i64 s.n, .int .u8 s.acc, .slice A s.rs.length c] 30) = w1 := ⟨_, rfl⟩
 have hb1 : Below w.heap.size w w1 := by rw [← hw1]; exact nw _ (Below.refl _ _)
 have hB : Blk w1 w.heap.size 30 #[.int .i64 s.n, .int .u8 s.acc, .slice A s.rs.length c] := by rw [← hw1]; exact Blk.new _ _ _
 have HW1 := Lib.hid hw1
 have HB1 := Lib.hid hb1
 have HCE : Hid (∀ W, Below w1.heap.size w1 W → W.cell? ⟨w.heap.size, 0, none⟩ = some (.int .i64 s.n) ∧ W.cell? ⟨w.heap.size, 1, none⟩ = some (.int .u8 s.acc) ∧ W.cell? ⟨w.heap.size, 2, none⟩ = some (.slice A s.rs.length c) ∧ w.heap.size < W.heap.size) := fun W hW => by
  have e1 := hB.below hW hB.lt
  exact ⟨by rw [e1.cell]; rfl, by rw [e1.cell]; rfl, by rw [e1.cell]; rfl, e1.lt⟩
 obtain ⟨b0, b1, b2, bl⟩ := HCE.out _ (Below.refl _ _)
 clear hw1 hb1 hB
 have HS := Lib.hid hs
 clear hs
 by_cases hok : ScOK s
 ·have HOK := Lib.hid hok
  have hn := hok.1
  have hdk := decide_eq_true hok
  clear hok
  by_cases hlv : LV s 0
  ·have HLV := Lib.hid hlv
   clear hlv
   go_enter Tryz.func26, Tryz.ntmps26
   go_upto_region 1 with fail
   rw [HW1.out]
   go_upto_region 3 with (go_at_call 52; go_loud (refine (valid05_any s A c w1 (HS.out.below HB1.out)).mono ?_; rintro e w2 ⟨rfl, hb2⟩; rw [hdk]))
   obtain ⟨b0, b1, b2, bl⟩ := HCE.out _ hb2
   have HB2 := Lib.hid hb2
   clear hb2
   go_upto_region 5 with (first | (go_at_call 53; go_loud (refine (live05_any s A c w2 (HS.out.below (bthen HB1.out HB2.out)) HOK.out).mono ?_; rintro e w3 ⟨⟨va, rfl, hva⟩, hb3⟩; have hva1 := hva.1; have hbt : va.toNat % 2 = 1 := (by have h0 := (hva.2 0 (by omega) (by omega)).trans ((lv_clo HOK.out).2 HLV.out); rw [show (0 : Int).toNat = 0 from rfl, Nat.testBit_zero] at h0; exact of_decide_eq_true h0); have HVA := Lib.hid hva; clear hva)) | (go_at_call 54; go_loud (refine (has_any va 0 _ hva1 (by omega)).mono ?_; rintro e w' ⟨rfl, rfl⟩)))
   clear b0 b1 b2 bl
   obtain ⟨b0, b1, b2, bl⟩ := HCE.out _ (bthen HB2.out hb3)
   have HB3 := Lib.hid (bthen HB2.out hb3)
   clear hb3
   refine ordB_below (.quiet 0 (.quiet 2 (.only 1 (.only 3 (.quiet 4 (.quiet 5 (.quiet 6 .done))))))) (by kernel_rfl) (by kernel_rfl) (by kernel_rfl) (fun _ _ _ _ _ h => h) ?_
   intro Wd hWd
   iterate 2 ((first | refine ordB_skip rfl rfl ?_ | (refine ordB_take (v := ?_) rfl rfl ?_ ?_; rotate_left 1; (focus (intro W hW; obtain ⟨hcW, hfW⟩ := bcell hW; (go_simp <;> with_reducible rfl))))); simp only [Act.put, zA, zB, zC])
   refine ordB_only (opB_call rfl rfl (fun K hK => ?_))
   go_simp
   go_at_call 55
   refine (reached05_any s A c Wd (HS.out.below (bthen HB1.out (bthen HB3.out hWd))) HOK.out).mono ?_
   rintro e Wd_1 ⟨⟨vr, rfl, hvr⟩, hxa⟩
   refine hK.out _ _ (hWd.trans (hxa.mono hWd.size)) (fun hWd_1 => ?_)
   refine ordB_only (opB_call rfl rfl (fun K hK => ?_))
   go_simp
   go_at_call 53
   refine (live05_any s A c Wd_1 (HS.out.below (bthen HB1.out (bthen HB3.out hWd_1))) HOK.out).mono ?_
   rintro e Wd_1_2 ⟨⟨vb, rfl, hvb⟩, hxb⟩
   refine hK.out _ _ (hWd_1.trans (hxb.mono hWd_1.size)) (fun hWd_1_2 => ?_)
   iterate 3 ((first | refine ordB_skip rfl rfl ?_ | (refine ordB_take (v := ?_) rfl rfl ?_ ?_; rotate_left 1; (focus (intro W hW; obtain ⟨hcW, hfW⟩ := bcell hW; (go_simp <;> with_reducible rfl))))); simp only [Act.put, zA, zB, zC])
   refine ordB_nil ?_
   have hbA := hWd_1_2
   clear hWd_1_2
   have ha := IsB.dif hvr hvb
   have hvr1 := hvr.1
   have hvb1 := hvb.1
   have hab := u8_andNot vr vb hvr1.1 hvr1.2 hvb1.1 hvb1.2
   obtain ⟨z, hz⟩ : ∃ z : Int, ((vr.toNat &&& (255 - vb.toNat) : Nat) : Int) = z := ⟨_, rfl⟩
   rw [hz] at ha hab
   have HZ : Hid (z = 0 ↔ ¬ ∃ m, RM s m ∧ ¬ LV s m) := (isB_nz ha).trans ⟨fun h ⟨m, h1, h2⟩ => by
    have hr := rm_range HOK.out h1
    have h3 := h m hr.1 (by omega)
    rw [(rm_iff HOK.out).2 h1, Bool.true_and, Bool.not_eq_false', lv_clo HOK.out] at h3
    exact h2 h3, fun h m _ _ => by
    rw [← Bool.not_eq_true, Bool.and_eq_true, rm_iff HOK.out, Bool.not_eq_true', ← Bool.not_eq_true, lv_clo HOK.out]
    exact fun h1 => h ⟨m, h1⟩⟩
   obtain ⟨wE, hwE⟩ : ∃ W, Wd_1_2 = W := ⟨_, rfl⟩
   rw [hwE] at hbA ⊢
   have HBE := Lib.hid (bthen HB3.out hbA)
   clear hwE hxa hxb hbA b0 b1 b2 bl hvr hvb hvr1 hvb1 ha hz
   obtain ⟨b0, b1, b2, bl⟩ := HCE.out _ HBE.out
   by_cases hz0 : z = 0
   ·have hst := HZ.out.1 hz0
    by_cases he : HasEnd s s.n
    ·have HE : Hid (soundE s = 41) := by show _ = _; unfold soundE; rw [if_neg (fun h => h HOK.out), if_neg (fun h => h HLV.out), if_neg hst, if_pos he]
     have HHE := Lib.hid he
     clear hst he
     subst hz0
     go_wp2_with (go_at_call 56; go_loud (refine (endless05_any s A c wE (HS.out.below (bthen HB1.out HBE.out)) HOK.out).mono ?_; rintro e w5 ⟨⟨B, L, d, rfl, hL9, hLe⟩, hb5⟩; have hlen : (0 : Int) < (L.length : Int) := (by have := List.length_pos_iff.2 (hLe.2 HHE.out); omega); have HB5 := Lib.hid hb5; clear hLe hb5))
     go_ret
     exact ⟨by rw [HE.out]; rfl, bthen HB1.out (bthen HBE.out HB5.out)⟩
    ·have HE : Hid (soundE s = 0) := by show _ = _; unfold soundE; rw [if_neg (fun h => h HOK.out), if_neg (fun h => h HLV.out), if_neg hst, if_neg he]
     have HHE := Lib.hid he
     clear hst he
     subst hz0
     go_wp2_with (go_at_call 56; go_loud (refine (endless05_any s A c wE (HS.out.below (bthen HB1.out HBE.out)) HOK.out).mono ?_; rintro e w5 ⟨⟨B, L, d, rfl, hL9, hLe⟩, hb5⟩; have hlen : ¬ (0 : Int) < (L.length : Int) := (fun h => HHE.out (hLe.1 (List.length_pos_iff.1 (by omega)))); have HB5 := Lib.hid hb5; clear hLe hb5))
     go_ret
     exact ⟨by rw [HE.out]; rfl, bthen HB1.out (bthen HBE.out HB5.out)⟩
   ·have HE : Hid (soundE s = 40) := by show _ = _; unfold soundE; rw [if_neg (fun h => h HOK.out), if_neg (fun h => h HLV.out), if_pos (Classical.byContradiction fun h => hz0 (HZ.out.2 h))]
    go_wp2_with fail
    go_ret
    exact ⟨by rw [HE.out]; rfl, bthen HB1.out HBE.out⟩
  ·have HLV := Lib.hid hlv
   have HE : Hid (soundE s = 50) := by show _ = _; unfold soundE; rw [if_neg (fun h => h HOK.out), if_pos hlv]
   clear hlv
   go_enter Tryz.func26, Tryz.ntmps26
   go_upto_region 1 with fail
   rw [HW1.out]
   go_upto_region 3 with (go_at_call 52; go_loud (refine (valid05_any s A c w1 (HS.out.below HB1.out)).mono ?_; rintro e w2 ⟨rfl, hb2⟩; rw [hdk]))
   obtain ⟨b0, b1, b2, bl⟩ := HCE.out _ hb2
   have HB2 := Lib.hid hb2
   clear hb2
   go_wp2_with (first | (go_at_call 53; go_loud (refine (live05_any s A c w2 (HS.out.below (bthen HB1.out HB2.out)) HOK.out).mono ?_; rintro e w3 ⟨⟨va, rfl, hva⟩, hb3⟩; have hva1 := hva.1; have hbt : ¬ va.toNat % 2 = 1 := (by have h0 := (hva.2 0 (by omega) (by omega)).trans (by rw [Bool.eq_false_iff]; exact fun h => HLV.out ((lv_clo HOK.out).1 h) : cloN s.backs (accB s.acc) s.n.toNat 0 = false); rw [show (0 : Int).toNat = 0 from rfl, Nat.testBit_zero] at h0; exact of_decide_eq_false h0); have HVA := Lib.hid hva; clear hva)) | (go_at_call 54; go_loud (refine (has_any va 0 _ hva1 (by omega)).mono ?_; rintro e w' ⟨rfl, rfl⟩)))
   go_ret
   exact ⟨by rw [HE.out]; rfl, bthen HB1.out (bthen HB2.out hb3)⟩
 ·have HE : Hid (soundE s = 20) := if_pos hok
  have hdk := decide_eq_false hok
  go_enter Tryz.func26, Tryz.ntmps26
  go_upto_region 1 with fail
  rw [HW1.out]
  go_wp2_with (go_at_call 52; go_loud (refine (valid05_any s A c w1 (HS.out.below HB1.out)).mono ?_; rintro e w2 ⟨rfl, hb2⟩; rw [hdk]))
  go_ret
  exact ⟨by rw [HE.out]; rfl, bthen HB1.out hb2⟩
set_option maxHeartbeats 8000000 in
theorem osound05_any (s : Sc) (A : Option Addr) (c : Nat) (w : World) (hs : ScIn w s A c) :
 Calls Tryz.prog 37 #[.agg #[.int .i64 s.n, .int .u8 s.acc, .slice A s.rs.length c]] w fun e w' => e = .returned (.bool (decide (soundE s = 0))) ∧ Below w.heap.size w w' := by
 obtain ⟨w1, hw1⟩ : ∃ w1, w.alloc (.cells #[.int .i64 s.n, .int .u8 s.acc, .slice A s.rs.length c] 30) = w1 := ⟨_, rfl⟩
 have hb1 : Below w.heap.size w w1 := by rw [← hw1]; exact nw _ (Below.refl _ _)
 have hB : Blk w1 w.heap.size 30 #[.int .i64 s.n, .int .u8 s.acc, .slice A s.rs.length c] := by rw [← hw1]; exact Blk.new _ _ _
 have HW1 := Lib.hid hw1
 have HB1 := Lib.hid hb1
 have HCE : Hid (∀ W, Below w1.heap.size w1 W → W.cell? ⟨w.heap.size, 0, none⟩ = some (.int .i64 s.n) ∧ W.cell? ⟨w.heap.size, 1, none⟩ = some (.int .u8 s.acc) ∧ W.cell? ⟨w.heap.size, 2, none⟩ = some (.slice A s.rs.length c) ∧ w.heap.size < W.heap.size) := fun W hW => by
  have e1 := hB.below hW hB.lt
  exact ⟨by rw [e1.cell]; rfl, by rw [e1.cell]; rfl, by rw [e1.cell]; rfl, e1.lt⟩
 obtain ⟨b0, b1, b2, bl⟩ := HCE.out _ (Below.refl _ _)
 clear hw1 hb1 hB
 have HS := Lib.hid hs
 clear hs
 obtain ⟨z, hz⟩ : ∃ z, soundE s = z := ⟨_, rfl⟩
 have HSD : Hid (∀ W, Below w.heap.size w W → Calls Tryz.prog 26 #[.agg #[.int .i64 s.n, .int .u8 s.acc, .slice A s.rs.length c]] W fun e w' => e = .returned (.int .i64 z) ∧ Below W.heap.size W w') := fun W hW => by rw [← hz]; exact sound05_any s A c W (HS.out.below hW)
 have HD : Hid (∀ b, decide (z = 0) = b → decide (soundE s = 0) = b) := fun b hb => by rw [hz]; exact hb
 clear hz
 go_enter Tryz.func37, Tryz.ntmps37
 go_upto_region 1 with fail
 rw [HW1.out]
 by_cases h : z = 0
 ·have HR := Lib.hid (HD.out true (decide_eq_true h))
  go_wp2_with (go_at_call 26; go_loud (refine (HSD.out w1 HB1.out).mono ?_; rintro e w2 ⟨rfl, hb2⟩))
  go_ret
  exact ⟨ret_bool (by first | exact HR.out | exact HR.out.symm | (rw [HR.out]; done) | (rw [HR.out]; simp [h]; done)), bthen HB1.out hb2⟩
 ·have HR := Lib.hid (HD.out false (decide_eq_false h))
  go_wp2_with (go_at_call 26; go_loud (refine (HSD.out w1 HB1.out).mono ?_; rintro e w2 ⟨rfl, hb2⟩))
  go_ret
  exact ⟨ret_bool (by first | exact HR.out | exact HR.out.symm | (rw [HR.out]; done) | (rw [HR.out]; simp [h]; done)), bthen HB1.out hb2⟩
end Go.Proofs.YtfpnhgahkjglgaaGreat
