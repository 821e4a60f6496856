/- DERIVED. Vertical, plain words: the heights of a staff, its parts, the distances, the middles, the extents. -/
import Derived.Test.YticpophdoiljfaaSkyN
namespace Go.Proofs.Yticpophdoiljfaa
open Go.RowKit

theorem sizeB_iff {v : Int} : sizeB v = true ↔ 0 ≤ v ∧ v ≤ 1048576 := by simp [sizeB]
theorem side_side {side : Int} (x : Int) (hs : side = 1 ∨ side = -1) : side * (side * x) = x := by
  rcases hs with hh | hh <;> rw [hh] <;> omega

theorem raised_one (h : List Int) (k : Nat) (v : Int) (hk : k < h.length) : raised h k (k + 1) v = h.set k (if h[k] < v then v else h[k]) := by
  rw [raised_succ h k k v (Nat.le_refl _) hk, raised_none]

theorem colErr_self {n k : Nat} (hk : k < n) : colErr n k k = 0 := by unfold colErr; split <;> omega
theorem mostV_self {side : Int} {h : List Int} {k : Nat} (hk : k < h.length) : mostV side h k k = side * h[k] := by
  rw [mostV, if_pos (colErr_self hk)]
  congr 1
  unfold mostOut
  rw [show ((k : Int)).toNat = k by omega, show ((k : Int) + 1 - (k : Int)).toNat = 1 by omega]
  rw [List.drop_eq_getElem_cons hk, List.take_succ_cons, List.take_zero]
  rfl

/-- The height of a column that is k spaces high. -/
def sp64 (x : Int) : Int := 64 * max 0 x
/-- The heights of the first k of n columns; the others are at 0. -/
def colsTo (l : List Int) (n k : Nat) : List Int := (List.range n).map fun c => if c < k then sp64 (l.getD c 0) else 0
theorem colsTo_len (l : List Int) (n k : Nat) : (colsTo l n k).length = n := by simp [colsTo]
theorem colsTo_get (l : List Int) (n k c : Nat) (hc : c < (colsTo l n k).length) : (colsTo l n k)[c] = if c < k then sp64 (l.getD c 0) else 0 := by simp [colsTo]
theorem colsTo_zero (l : List Int) (n : Nat) : colsTo l n 0 = List.replicate n 0 := by
  apply List.ext_getElem (by simp [colsTo_len])
  intro i h1 h2
  rw [colsTo_get]
  simp
theorem colsTo_end (l : List Int) (n k : Nat) (h : n ≤ k ∨ l.length ≤ k) : colsTo l n k = colsTo l n n := by
  apply List.ext_getElem (by simp [colsTo_len])
  intro i h1 h2
  rw [colsTo_get, colsTo_get]
  rw [colsTo_len] at h2
  rw [if_pos h2]
  by_cases e : i < k
  · rw [if_pos e]
  · rw [if_neg e]
    have : l.length ≤ i := by omega
    simp [List.getD, sp64, List.getElem?_eq_none this]
theorem sp64_range {x : Int} (hx : x ≤ 127) : 0 ≤ sp64 x ∧ sp64 x ≤ 8128 := by unfold sp64; omega
theorem colsTo_succ (l : List Int) (n k : Nat) (hk : k < n) : raised (colsTo l n k) k (k + 1) (sp64 (l.getD k 0)) = colsTo l n (k + 1) := by
  have hl : k < (colsTo l n k).length := by rw [colsTo_len]; exact hk
  have e0 : (colsTo l n k)[k] = 0 := by rw [colsTo_get, if_neg (by omega)]
  rw [raised_one _ _ _ hl, e0]
  apply List.ext_getElem (by simp [colsTo_len])
  intro i h1 h2
  rw [List.getElem_set]
  by_cases e : k = i
  · subst e
    have h0 : 0 ≤ sp64 (l.getD k 0) := by unfold sp64; omega
    rw [if_pos rfl, colsTo_get, if_pos (Nat.lt_succ_self k)]
    generalize sp64 (l.getD k 0) = z at h0 ⊢
    split <;> omega
  · rw [if_neg e, colsTo_get, colsTo_get]
    by_cases c : i < k
    · rw [if_pos c, if_pos (by omega)]
    · rw [if_neg c, if_neg (by omega)]
theorem colsTo_low {l : List Int} {n k : Nat} (hl : ∀ x ∈ l, x ≤ 127) : ∀ x ∈ colsTo l n k, 0 ≤ x ∧ x ≤ 8128 := by
  intro x hx
  obtain ⟨i, hi, rfl⟩ := List.mem_iff_getElem.1 hx
  rw [colsTo_get]
  split
  · refine sp64_range ?_
    simp only [List.getD]
    cases h : l[i]? with
    | none => simp
    | some y => exact hl y (List.mem_of_getElem? h)
  · omega

/-- A staff's values: its heights above and below, outwards, and its part. -/
structure SV where
  ha : List Int
  hb : List Int
  part : Int

/-- The number of columns. -/
def ncol (X : List (List (Int × Int))) : Nat := max 1 (min 8 (X.headD []).length)
/-- The part of staff i. -/
def partTo (P : List Int) : Nat → Int
  | 0 => 0
  | i + 1 => partTo P i + P.getD (i + 1) 0
def svOf (X : List (List (Int × Int))) (P : List Int) (i : Nat) : SV :=
  ⟨colsTo ((X.getD i []).map (·.1)) (ncol X) (ncol X), colsTo ((X.getD i []).map (·.2)) (ncol X) (ncol X), partTo P i⟩
theorem ncol_range (X : List (List (Int × Int))) : 1 ≤ ncol X ∧ ncol X ≤ 8 := by unfold ncol; omega
theorem getD_u8 {P : List Int} (hP : ∀ x ∈ P, 0 ≤ x ∧ x ≤ 255) (i : Nat) : 0 ≤ P.getD i 0 ∧ P.getD i 0 ≤ 255 := by
  simp only [List.getD]
  cases h : P[i]? with
  | none => simp
  | some y => exact hP y (List.mem_of_getElem? h)
theorem partTo_range {P : List Int} (hP : ∀ x ∈ P, 0 ≤ x ∧ x ≤ 255) : ∀ i, 0 ≤ partTo P i ∧ partTo P i ≤ 255 * (i : Int)
  | 0 => by simp [partTo]
  | i + 1 => by
    have h1 := partTo_range hP i
    have h2 := getD_u8 hP (i + 1)
    unfold partTo
    omega

/-- The distance of two staves: the heights below the upper one, the heights above the lower one. -/
def sums (hb ha : List Int) : List Int := List.zipWith (· + ·) hb ha
def distM (hb ha : List Int) : Int := maxL (sums hb ha)
def distV (a b : SV) (gap least : Int) : Int := max least (distM a.hb b.ha + gap)

theorem foldl_max_ge : ∀ (l : List Int) (a : Int), a ≤ l.foldl max a ∧ ∀ x ∈ l, x ≤ l.foldl max a
  | [], a => ⟨Int.le_refl _, fun _ h => by cases h⟩
  | y :: l, a => by
    have h := foldl_max_ge l (max a y)
    rw [List.foldl_cons]
    refine ⟨by omega, fun x hx => ?_⟩
    rcases List.mem_cons.1 hx with e | e
    · subst e
      omega
    · exact h.2 x e
theorem foldl_max_mem : ∀ (l : List Int) (a : Int), l.foldl max a = a ∨ l.foldl max a ∈ l
  | [], a => .inl rfl
  | y :: l, a => by
    rw [List.foldl_cons]
    rcases foldl_max_mem l (max a y) with h | h
    · rcases Int.le_total a y with c | c
      · right
        rw [h, show max a y = y by omega]
        exact List.mem_cons_self ..
      · left
        rw [h]
        omega
    · exact .inr (List.mem_cons_of_mem _ h)
theorem maxL_ge {l : List Int} {x : Int} (hx : x ∈ l) : x ≤ maxL l := by
  cases l with
  | nil => cases hx
  | cons a l =>
    rcases List.mem_cons.1 hx with e | e
    · subst e
      exact (foldl_max_ge l x).1
    · exact (foldl_max_ge l a).2 x e
theorem maxL_mem {l : List Int} (h : 0 < l.length) : maxL l ∈ l := by
  cases l with
  | nil => simp at h
  | cons a l =>
    rcases foldl_max_mem l a with e | e
    · rw [maxL, e]; exact List.mem_cons_self ..
    · exact List.mem_cons_of_mem _ e
theorem maxL_uniq {l : List Int} {M : Int} (hle : ∀ x ∈ l, x ≤ M) (hm : M ∈ l) : maxL l = M := by
  have h1 := maxL_ge hm
  have h2 := hle _ (maxL_mem (List.length_pos_of_mem hm))
  omega
theorem maxL_low {l : List Int} (a b : Int) (h : 0 < l.length) (hl : ∀ x ∈ l, a ≤ x ∧ x ≤ b) : a ≤ maxL l ∧ maxL l ≤ b := hl _ (maxL_mem h)
theorem sums_len {hb ha : List Int} (h : hb.length = ha.length) : (sums hb ha).length = hb.length := by simp [sums, h]
theorem sums_get {hb ha : List Int} (i : Nat) (h1 : i < hb.length) (h2 : i < ha.length) (h : i < (sums hb ha).length) : (sums hb ha)[i] = hb[i] + ha[i] := by simp [sums]

/-- The middles: each staff is a distance below the one ahead of it. -/
def midTo (L : List SV) (gap least : Int) : Nat → Int
  | 0 => 0
  | i + 1 => midTo L gap least i - distV (L.getD i ⟨[], [], 0⟩) (L.getD (i + 1) ⟨[], [], 0⟩) gap least
/-- The extents of the first k staves. -/
def topTo (L : List SV) (gap least : Int) : Nat → Int
  | 0 => 0
  | i + 1 => max (topTo L gap least i) (max (midTo L gap least i) (midTo L gap least i + maxL (L.getD i ⟨[], [], 0⟩).ha))
def botTo (L : List SV) (gap least : Int) : Nat → Int
  | 0 => 0
  | i + 1 => min (botTo L gap least i) (min (midTo L gap least i) (midTo L gap least i - maxL (L.getD i ⟨[], [], 0⟩).hb))
def mids (L : List SV) (gap least : Int) : List Int := (List.range L.length).map (midTo L gap least)
def dists (L : List SV) (gap least : Int) : List Int := (List.range (L.length - 1)).map fun i => distV (L.getD i ⟨[], [], 0⟩) (L.getD (i + 1) ⟨[], [], 0⟩) gap least
end Go.Proofs.Yticpophdoiljfaa
