/-
  The walks of layer 21: the reference's Touch.
-/
import Derived.Test.YtpjecpefbfobdaaAreaWalkF
namespace Go.Proofs.Ytpjecpefbfobdaa
open Go Go.RowKit

theorem inside_ok {p : Pt} (h : insideB p = true) : PtOK p := by
  unfold insideB coordB at h
  simp at h
  exact ⟨by unfold Small; omega, by unfold Small; omega⟩
def choOf (a : Ar) (ts : List Tp) (p : Pt) : Cho := ⟨a.key, priceOf a (shiftOf ts a.key) p⟩
theorem chos_snoc (us : List Ar) (ts : List Tp) (p : Pt) (k : Nat) (a : Ar) (h : us[k]? = some a) :
    chosOf (us.take (k + 1)) ts p = chosOf (us.take k) ts p ++ (if (choOf a ts p).cost ≤ 1000 then [choOf a ts p] else []) := by
  unfold chosOf
  rw [take_succ_of h, List.map_append, List.filter_append]
  congr 1
  simp only [List.map_cons, List.map_nil, List.filter_cons, List.filter_nil]
  unfold choOf
  split <;> simp_all

set_option maxHeartbeats 4000000 in
set_option maxRecDepth 100000 in
theorem reftouch_any (us : List Ar) (A : Option Addr) (c : Nat) (v1 v2 : Value) (ts : List Tp) (B : Option Addr) (d : Nat) (p : Pt) (w : World) (hx : SlR 5 RAr w A us) (hl : us.length ≤ 65536) (ha : ∀ a ∈ us, ArOK a)
    (hy : SlR 4 RTp w B ts) (hl2 : ts.length ≤ 65536) (hT : ∀ t ∈ ts, TpOK t) :
    Calls Try.prog 16 #[.agg #[.slice A us.length c, v1, v2], .slice B ts.length d, vPt p] w fun e w' => ∃ v, e = .returned (.tuple #[v, .int .i64 (touchOf us ts p).2]) ∧
      w'.ownsRow w.heap.size 67 2 v (touchOf us ts p).1.length ((touchOf us ts p).1.flatMap encCho) ∧ Below w.heap.size w w' := by
  obtain ⟨i0, hi, hz0, hz1, hz2⟩ := info_parts cho_info
  obtain ⟨w2, hw2⟩ : ∃ w2, (w.alloc (.cells #[.slice A us.length c, v1, v2] 31)).alloc (.cells #[.int .i64 p.x, .int .i64 p.y] 36) = w2 := ⟨_, rfl⟩
  have hbw2 : Below w.heap.size w w2 := by rw [← hw2]; exact nw _ (nw _ (Below.refl _ _))
  have HB0 : Hid (Blk w2 w.heap.size 31 #[.slice A us.length c, v1, v2]) := by rw [← hw2]; exact (Blk.new _ _ _).alloc _
  have HB1 : Hid (Blk w2 (w.heap.size + 1) 36 #[.int .i64 p.x, .int .i64 p.y]) := by rw [← hw2]; exact Blk.new_ (by simp)
  have hsz2 : w2.heap.size = w.heap.size + 1 + 1 := by rw [← hw2]; simp
  have HW2 := Lib.hid hw2
  clear hw2
  have HI := Lib.hid (inside_any p w2)
  cases hin : insideB p with
  | false =>
    have HT := Lib.hid (show touchOf us ts p = ([], 1) by unfold touchOf; rw [hin]; rfl)
    rw [hin] at HI
    go_enter Try.func16, Try.ntmps16
    go_wp2_with (go_at_call 38; go_loud (rw [HW2.out]; refine HI.out.mono ?_; rintro e w3 ⟨rfl, hb3⟩))
    go_ret2
    exact ⟨_, by rw [HT.out]; rfl, by rw [HT.out]; exact own_nil _ _ _ _, hbw2.trans (hb3.mono hbw2.size)⟩
  | true =>
    have hp := inside_ok hin
    rw [hin] at HI
    have HC0 : Hid (∀ (W : World) (a : Ar), a ∈ us → Below w2.heap.size w2 W → Calls Try.prog 26 #[vAr a, .slice B ts.length d, vPt p] W fun e w' => e = .returned (.int .i64 (choOf a ts p).cost) ∧ Below W.heap.size W w') := fun W a hm hW =>
      refcost_any a B ts d p W ((hy.below keeps_tp hbw2).below keeps_tp hW) hl2 hT (ha a hm) hp
    have HX2 := Lib.hid (hx.below keeps_ar hbw2)
    have HT0 : Hid (∀ L, chosOf us ts p = L → touchOf us ts p = if L = [] then ([], 210) else (fewOf L, 0)) := fun L hL => by unfold touchOf; rw [hin, hL]; simp
    clear hx hy hT ha hp hin
    go_enter Try.func16, Try.ntmps16
    go_wp2_with (go_at_call 38; go_loud (rw [HW2.out]; refine HI.out.mono ?_; rintro e w3 ⟨rfl, hb3⟩))
    have HB3 := Lib.hid hb3
    have hs3 := hb3.size
    clear hb3
    go_loopw [8, 9] (fun out i wr => ∃ k : Nat, ∃ L : List Cho, k ≤ us.length ∧ Hid (L = chosOf (us.take k) ts p) ∧ L.length ≤ k ∧ i = .int .i64 k ∧ wr.ownsRow (w.heap.size + 2) 67 2 out L.length (L.flatMap encCho) ∧ Below (w.heap.size + 2) w2 wr) (fun _ i _ => us.length - (intOf i).toNat)
    case atStart => exact ⟨0, [], by omega, rfl, by simp, rfl, own_empty w3 _ _ _ (by omega), (HB3.out.mono (by omega)).alloc (by omega) _⟩
    case round =>
      obtain ⟨k, L, hk, HL, hLk, rfl, hown, hb⟩ := hrel
      have hbsz := hb.size
      have x0 := HB0.out.below hb (by omega)
      have x1 := HB1.out.below hb (by omega)
      have c00 := x0.cell 0
      have c10 := x1.cell 0
      have c11 := x1.cell 1
      have l0 := x0.lt
      have l1 := x1.lt
      simp at c00 c10 c11
      clear x0 x1
      have hb2 : Below w2.heap.size w2 wr := hb.mono (by omega)
      by_cases hlt : k < us.length
      · obtain ⟨b, off, a, rfl, hbb, haa, d0, d1, d2, d3, d4⟩ := (HX2.out.below keeps_ar hb2).ar hlt
        have HA := Lib.hid haa
        have HC : Hid (∀ W, Below wr.heap.size wr W → Calls Try.prog 26 #[vAr a, .slice B ts.length d, vPt p] W fun e w' => e = .returned (.int .i64 (choOf a ts p).cost) ∧ Below W.heap.size W w') := fun W hW => HC0.out W a (List.mem_of_getElem? haa) (hb2.trans (hW.mono (by omega)))
        have HOwn := Lib.hid hown
        have HB2 := Lib.hid hb
        have HB22 := Lib.hid hb2
        have HN := Lib.hid (chos_snoc us ts p k a haa)
        have hkey : (choOf a ts p).key = a.key := rfl
        generalize choOf a ts p = x at *
        clear haa hown hb hb2
        go_wp2_with fail
        refine ord_below [(0, false), (1, false), (2, false), (3, false), (4, false), (5, false), (6, false), (7, true), (8, false)] (by kernel_rfl) (by kernel_rfl) (by kernel_rfl) (fun _ _ _ _ _ h => h) ?_
        intro W0 hS0
        iterate 7 (first
          | (refine ord_skip rfl rfl ?_; simp only [Act.put, List.setIfInBounds_toArray, List.set_cons_zero, List.set_cons_succ])
          | (refine ord_take (v := ?_) rfl rfl ?_ ?_
             rotate_left 1
             focus (intro W hW; obtain ⟨hcW, hfW⟩ := bcell hW; (go_simp <;> with_reducible rfl))
             simp only [Act.put, List.setIfInBounds_toArray, List.set_cons_zero, List.set_cons_succ]))
        refine ord_call rfl rfl (fun K hK => ?_)
        go_simp
        (go_at_call 26; refine ((HC.out _ hS0).mono ?_); rintro e w1 ⟨rfl, hbC⟩; refine hK.out _ _ (hS0.trans (hbC.mono hS0.size)) (fun hS1 => ?_))
        skip
        iterate 1 (first
          | (refine ord_skip rfl rfl ?_; simp only [Act.put, List.setIfInBounds_toArray, List.set_cons_zero, List.set_cons_succ])
          | (refine ord_take (v := ?_) rfl rfl ?_ ?_
             rotate_left 1
             focus (intro W hW; obtain ⟨hcW, hfW⟩ := bcell hW; (go_simp <;> with_reducible rfl))
             simp only [Act.put, List.setIfInBounds_toArray, List.set_cons_zero, List.set_cons_succ]))
        refine ord_nil ?_
        have e00 := (hS1.cell (p := ⟨w.heap.size, 0, none⟩) l0).trans c00
        have e0 := (hS1.cell (p := ⟨b, _, none⟩) hbb).trans d0
        have hown1 := own_below HOwn.out hS1
        have hs1 := hS1.size
        have hb1 := HB2.out.trans (hS1.mono (by omega))
        by_cases h1 : x.cost ≤ 1000
        · go_wp2_with (first | (at_builtin; refine wpList_app1 rfl _ _ 38 rfl (w.heap.size + 2) 67 i0 _ 2 16 Try.underlying38 hi hz0 hz1 hz2 rfl (by decide) _ _ _ rfl _ [.int .u8 a.key, .int .i64 x.cost] rfl hown1 _ rfl (by simp) rfl (by simp [Value.oneCell']) (by omega) (by decide) (by omega) ?_; intro v4 w4 hown4 hb4 ha4))
          go_roundw
          case rel => exact ⟨k + 1, L ++ [x], by omega, by show L ++ [x] = _; rw [HN.out, if_pos h1, HL.out], by simp; omega, by go_num, by rw [enc_snoc, List.length_append]; unfold encCho; rw [hkey]; exact hown4, hb1.trans hb4⟩
          case measure => simp [intOf]; omega
        · go_wp2_with fail
          go_roundw
          case rel => exact ⟨k + 1, L, by omega, by show L = _; rw [HN.out, if_neg h1, HL.out]; simp, by omega, by go_num, hown1, hb1⟩
          case measure => simp [intOf]; omega
      · have HF : Hid (touchOf us ts p = if L = [] then ([], 210) else (fewOf L, 0)) := HT0.out L (by rw [HL.out, List.take_of_length_le (by omega)])
        have HBB := Lib.hid (hbw2.trans (hb2.mono (by omega)))
        obtain ⟨A3, cap, rfl, hcap, hcm, hslr⟩ := own_slr (R := RCho) hown (fun _ => rfl) (fun _ => rfl) rfl
        by_cases he : L = []
        · subst he
          rw [if_pos rfl] at HF
          simp only [List.length_nil] at hcap
          clear hb hb2 hown hslr
          go_wp2_with fail
          go_ret2
          exact ⟨_, by rw [HF.out]; rfl, by rw [HF.out]; exact own_nil _ _ _ _, HBB.out⟩
        · have hlen : L.length ≠ 0 := fun h => he (List.length_eq_zero_iff.1 h)
          rw [if_neg he] at HF
          have HE := Lib.hid he
          clear he hb hb2 hown
          have HFew := Lib.hid (few_any A3 L cap wr hslr (by omega))
          go_wp2_with (go_at_call 39; refine HFew.out.mono ?_; rintro e w5 ⟨v5, rfl, hown5, hb5⟩)
          go_ret2
          exact ⟨_, by rw [HF.out]; rfl, by rw [HF.out]; exact own_base hown5 HBB.out.size, HBB.out.trans (hb5.mono HBB.out.size)⟩
end Go.Proofs.Ytpjecpefbfobdaa
