/-
  The plain law of layer 21's taps: what adapting computes.
-/
import Derived.Test.YtpjecpefbfobdaaAreaWalkI
import Derived.Test.YtpjecpefbfobdaaAreaIns3
namespace Go.Proofs.Ytpjecpefbfobdaa
open Go Go.RowKit

def tapOf (ts : List Tp) (key : Int) : Tp := (ts.find? (fun t => decide (t.key = key))).getD ⟨key, 0, 0, 0⟩
def bumpT (t : Tp) (m p : Pt) : Tp := ⟨t.key, t.dx + (p.x - m.x), t.dy + (p.y - m.y), t.n + 1⟩
def halfT (t : Tp) : Tp := if t.n = 64 then ⟨t.key, t.dx.tdiv 2, t.dy.tdiv 2, 32⟩ else t
def newT (t : Tp) (m p : Pt) : Tp := halfT (bumpT t m p)
def putT (ts : List Tp) (key : Int) (t : Tp) : List Tp := ts.filter (fun x => decide (x.key < key)) ++ [t] ++ ts.filter (fun x => decide (key < x.key))
def adaptOf (us : List Ar) (ts : List Tp) (key : Int) (p : Pt) : List Tp × Int :=
  if insideB p = true then (match areaOf us key with | none => ([], 210) | some a => (putT ts key (newT (tapOf ts key) (midOf a) p), 0)) else ([], 1)

theorem mid_small {a : Ar} (h : ArOK a) : PtOK (midOf a) := by
  obtain ⟨h1, h2, h3, h4⟩ := h
  unfold Small at *
  have key : ∀ v : Int, -536870912 ≤ v ∧ v ≤ 536870912 → Small (v.tdiv 2) := fun v hv => by
    unfold Small
    rcases Int.le_total 0 v with h0 | h0
    · rw [Int.tdiv_eq_ediv_of_nonneg h0]; omega
    · obtain ⟨b, rfl⟩ : ∃ b, v = -b := ⟨-v, by omega⟩
      rw [Int.neg_tdiv, Int.tdiv_eq_ediv_of_nonneg (by omega)]
      omega
  exact ⟨key _ (by omega), key _ (by omega)⟩

theorem filter_lo {ts : List Tp} {key : Int} {i : Nat} (hp : PlaceT ts key i) : ts.filter (fun x => decide (x.key < key)) = ts.take i := by
  conv => lhs; rw [← List.take_append_drop i ts]
  rw [List.filter_append, List.filter_eq_self.2, List.filter_eq_nil_iff.2, List.append_nil]
  · intro x hx
    obtain ⟨j, hj, rfl⟩ := List.getElem_of_mem hx
    rw [List.length_drop] at hj
    rw [List.getElem_drop]
    have := hp.2 (i + j) _ (by omega) (List.getElem?_eq_getElem (by omega))
    simp; omega
  · intro x hx
    obtain ⟨j, hj, rfl⟩ := List.getElem_of_mem hx
    rw [List.length_take] at hj
    rw [List.getElem_take]
    have := hp.1 j _ (by omega) (List.getElem?_eq_getElem (by omega))
    simpa using this
theorem filter_hi_no {ts : List Tp} {key : Int} {i : Nat} (hp : PlaceT ts key i) (hn : ∀ x, ts[i]? = some x → x.key ≠ key) (hinc : IncT ts) : ts.filter (fun x => decide (key < x.key)) = ts.drop i := by
  conv => lhs; rw [← List.take_append_drop i ts]
  rw [List.filter_append, List.filter_eq_nil_iff.2, List.filter_eq_self.2, List.nil_append]
  · intro x hx
    obtain ⟨j, hj, rfl⟩ := List.getElem_of_mem hx
    rw [List.length_drop] at hj
    rw [List.getElem_drop]
    have h1 := hp.2 (i + j) _ (by omega) (List.getElem?_eq_getElem (show i + j < ts.length by omega))
    have h0 := hp.2 i _ (by omega) (List.getElem?_eq_getElem (show i < ts.length by omega))
    have hne := hn _ (List.getElem?_eq_getElem (show i < ts.length by omega))
    rw [decide_eq_true_iff]
    rcases j with _ | j
    · have e : ts[i + 0] = ts[i] := rfl
      rw [e]; omega
    · have := hinc.at_ (show i < i + (j + 1) by omega) (List.getElem?_eq_getElem (show i < ts.length by omega)) (List.getElem?_eq_getElem (show i + (j + 1) < ts.length by omega))
      omega
  · intro x hx
    obtain ⟨j, hj, rfl⟩ := List.getElem_of_mem hx
    rw [List.length_take] at hj
    rw [List.getElem_take]
    have := hp.1 j _ (by omega) (List.getElem?_eq_getElem (by omega))
    simp; omega
theorem filter_hi_yes {ts : List Tp} {key : Int} {i : Nat} (hp : PlaceT ts key i) {x0 : Tp} (hx0 : ts[i]? = some x0) (hk : x0.key = key) (hinc : IncT ts) : ts.filter (fun x => decide (key < x.key)) = ts.drop (i + 1) := by
  conv => lhs; rw [← List.take_append_drop (i + 1) ts]
  rw [List.filter_append, List.filter_eq_nil_iff.2, List.filter_eq_self.2, List.nil_append]
  · intro x hx
    obtain ⟨j, hj, rfl⟩ := List.getElem_of_mem hx
    rw [List.length_drop] at hj
    rw [List.getElem_drop]
    have := hinc.at_ (show i < i + 1 + j by omega) hx0 (List.getElem?_eq_getElem (show i + 1 + j < ts.length by omega))
    rw [decide_eq_true_iff]; omega
  · intro x hx
    obtain ⟨j, hj, rfl⟩ := List.getElem_of_mem hx
    rw [List.length_take] at hj
    rw [List.getElem_take]
    rcases Nat.lt_or_ge j i with h | h
    · have := hp.1 j _ h (List.getElem?_eq_getElem (by omega))
      simp; omega
    · obtain rfl : j = i := by omega
      have : ts[j] = x0 := by rw [List.getElem?_eq_getElem (by omega)] at hx0; exact Option.some.inj hx0
      rw [this]; simp; omega
theorem find_no {ts : List Tp} {key : Int} {i : Nat} (hp : PlaceT ts key i) (hn : ∀ x, ts[i]? = some x → x.key ≠ key) (hinc : IncT ts) : tapOf ts key = ⟨key, 0, 0, 0⟩ := by
  unfold tapOf
  rw [List.find?_eq_none.2]
  · rfl
  · intro x hx
    obtain ⟨j, hj, rfl⟩ := List.getElem_of_mem hx
    rw [decide_eq_true_iff]
    rcases Nat.lt_trichotomy j i with h | h | h
    · have := hp.1 j _ h (List.getElem?_eq_getElem hj); omega
    · subst h; exact hn _ (List.getElem?_eq_getElem hj)
    · have h0 := hp.2 i _ (by omega) (List.getElem?_eq_getElem (show i < ts.length by omega))
      have := hinc.at_ h (List.getElem?_eq_getElem (show i < ts.length by omega)) (List.getElem?_eq_getElem hj)
      omega
theorem find_yes {ts : List Tp} {key : Int} {i : Nat} {x0 : Tp} (hx0 : ts[i]? = some x0) (hk : x0.key = key) (hinc : IncT ts) : tapOf ts key = x0 := by
  unfold tapOf
  cases hf : ts.find? (fun t => decide (t.key = key)) with
  | none =>
    have := List.find?_eq_none.1 hf x0 (List.mem_of_getElem? hx0)
    simp [hk] at this
  | some y =>
    have h1 := List.find?_some hf
    have h2 := List.mem_of_find?_eq_some hf
    obtain ⟨j, hj, rfl⟩ := List.getElem_of_mem h2
    simp at h1
    rcases Nat.lt_trichotomy j i with h | h | h
    · have := hinc.at_ h (List.getElem?_eq_getElem hj) hx0; omega
    · subst h
      rw [List.getElem?_eq_getElem hj] at hx0
      exact Option.some.inj hx0
    · have := hinc.at_ h hx0 (List.getElem?_eq_getElem hj); omega
theorem put_ins {ts : List Tp} {key : Int} {i : Nat} (hp : PlaceT ts key i) (hn : ∀ x, ts[i]? = some x → x.key ≠ key) (hinc : IncT ts) (hi : i ≤ ts.length) (z t : Tp) : (insAt ts i z).set i t = putT ts key t := by
  unfold putT insAt
  rw [filter_lo hp, filter_hi_no hp hn hinc]
  have hl : (ts.take i).length = i := by rw [List.length_take]; omega
  rw [List.append_assoc, List.set_append_right _ _ (by omega), hl]
  simp
theorem put_set {ts : List Tp} {key : Int} {i : Nat} (hp : PlaceT ts key i) {x0 : Tp} (hx0 : ts[i]? = some x0) (hk : x0.key = key) (hinc : IncT ts) (t : Tp) : ts.set i t = putT ts key t := by
  unfold putT
  rw [filter_lo hp, filter_hi_yes hp hx0 hk hinc]
  have hi := (List.getElem?_eq_some_iff.1 hx0).1
  rw [List.set_eq_take_append_cons_drop, if_pos hi]
  simp
theorem ins_at {ts : List Tp} {i : Nat} (hi : i ≤ ts.length) (z : Tp) : (insAt ts i z)[i]? = some z := by
  unfold insAt
  have hl : (ts.take i).length = i := by rw [List.length_take]; omega
  rw [List.append_assoc, List.getElem?_append_right (by omega), hl]
  simp
theorem ins_len {ts : List Tp} {i : Nat} (hi : i ≤ ts.length) (z : Tp) : (insAt ts i z).length = ts.length + 1 := by
  unfold insAt
  simp; omega

/-- One tap stored into a row of the call's own. -/
theorem own_setT {w : World} {base g c i n : Nat} {L : List Tp} {t : Tp} (hown : w.ownsRow base 82 4 (.slice (some ⟨g, 0, none⟩) n c) n (L.flatMap encT)) (hn : n = L.length) (hi : i < n) :
    (w.setCells g (i * 4) (encT t)).ownsRow base 82 4 (.slice (some ⟨g, 0, none⟩) n c) n ((L.set i t).flatMap encT) := by
  obtain ⟨g', c', cur, hvs, hgb, hblk, hnc, hcm, hcl, htk⟩ := blk_of_own hown (by omega)
  injection hvs with h1 h2 h3
  injection h1 with h1
  injection h1 with h1
  subst h1; subst h3
  have h4 : (encT t).length = 4 := rfl
  have hic : i * 4 + 4 ≤ n * 4 := by omega
  have hnc4 : n * 4 ≤ c * 4 := Nat.mul_le_mul_right _ hnc
  have hb := blk_setCells (encT t) (i * 4) w cur hblk (by rw [h4, hcl]; omega)
  have := own_of_blk (base := base) (n := n) (cap := c) (s := 4) hb hgb hnc hcm (by unfold over; simp [h4]; omega)
  have e : (over cur (i * 4) (encT t)).take (n * 4) = (L.set i t).flatMap encT := by
    have hli : i < L.length := by omega
    have hs : L.set i t = L.take i ++ ([t] ++ L.drop (i + 1)) := by rw [List.set_eq_take_append_cons_drop, if_pos hli]; simp
    have hfl : ((L.take i).flatMap encT).length = i * 4 := by rw [flatMap_len (s := 4) (fun _ => rfl), List.length_take, Nat.min_eq_left (by omega)]
    have hL : L.flatMap encT = (L.take i).flatMap encT ++ (encT L[i] ++ (L.drop (i + 1)).flatMap encT) := by
      conv => lhs; rw [← List.take_append_drop i L, List.drop_eq_getElem_cons hli]
      rw [List.flatMap_append, List.flatMap_cons]
    rw [hs]
    unfold over
    rw [h4]
    have e1 : cur.take (i * 4) = (L.take i).flatMap encT := by
      have : (cur.take (n * 4)).take (i * 4) = (L.flatMap encT).take (i * 4) := by rw [htk]
      rw [List.take_take, Nat.min_eq_left (by omega)] at this
      rw [this, hL, List.take_append_of_le_length (by omega), List.take_of_length_le (by omega)]
    have e2 : (cur.drop (i * 4 + 4)).take (n * 4 - (i * 4 + 4)) = (L.drop (i + 1)).flatMap encT := by
      have : (cur.take (n * 4)).drop (i * 4 + 4) = (L.flatMap encT).drop (i * 4 + 4) := by rw [htk]
      rw [List.drop_take] at this
      rw [this, hL, ← List.append_assoc, List.drop_append_of_le_length (by simp [hfl, encT]), List.drop_of_length_le (by simp [hfl, encT])]
      simp
    have hm : Nat.min (i * 4) cur.length = i * 4 := by simp only [Nat.min_def]; rw [if_pos (by rw [hcl]; omega)]
    have e3 : List.take (n * 4) ((L.take i).flatMap encT) = (L.take i).flatMap encT := List.take_of_length_le (by omega)
    have e4 : List.take (n * 4 - i * 4) (encT t) = encT t := List.take_of_length_le (by rw [h4]; omega)
    rw [List.append_assoc, List.take_append, e1, hfl, e3, List.take_append, h4, e4, show n * 4 - i * 4 - 4 = n * 4 - (i * 4 + 4) by omega, e2, List.flatMap_append, List.flatMap_append]
    simp
  rw [e] at this
  exact this
end Go.Proofs.Ytpjecpefbfobdaa
