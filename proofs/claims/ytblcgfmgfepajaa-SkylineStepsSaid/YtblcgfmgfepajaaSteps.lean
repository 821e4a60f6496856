/- DERIVED. Contract of Steps: neighbouring runs, as long as possible. -/
import Derived.Test.YtblcgfmgfepajaaSkyC
import Derived.Test.YtblcgfmgfepajaaSkyN
import Derived.Deep.AppendLies
namespace Go.Proofs.Ytblcgfmgfepajaa
open Go.RowKit

/-- A run of columns. -/
structure Run where
  a : Nat
  b : Nat
  x : Int
def Run.cells (side : Int) (r : Run) : List Value := [.int .i64 r.a, .int .i64 r.b, .int .i64 (side * r.x)]
def runCells (side : Int) (rs : List Run) : List Value := rs.flatMap (Run.cells side)
theorem runCells_len (side : Int) : ∀ rs : List Run, (runCells side rs).length = rs.length * 3
  | [] => rfl
  | r :: rs => by
    have := runCells_len side rs
    simp only [runCells, List.flatMap_cons, List.length_append] at this ⊢
    rw [this, List.length_cons]
    simp [Run.cells]
    omega
theorem runCells_snoc (side : Int) (rs : List Run) (r : Run) : runCells side (rs ++ [r]) = runCells side rs ++ r.cells side := by simp [runCells]
theorem runCells_get (side : Int) : ∀ (rs : List Run) (j : Nat) (hj : j < rs.length) (i : Nat), i < 3 → (runCells side rs)[j * 3 + i]? = (rs[j].cells side)[i]?
  | r :: rs, 0, _, i, hi => by
    simp only [runCells, List.flatMap_cons, Nat.zero_mul, Nat.zero_add]
    rw [List.getElem?_append_left (by simp [Run.cells]; omega)]
    rfl
  | r :: rs, j + 1, hj, i, hi => by
    have := runCells_get side rs j (by simpa using hj) i hi
    simp only [runCells, List.flatMap_cons] at this ⊢
    rw [List.getElem?_append_right (by simp [Run.cells]; omega)]
    have e : (rs.flatMap (Run.cells side))[(j + 1) * 3 + i - (Run.cells side r).length]? = (rs.flatMap (Run.cells side))[j * 3 + i]? := by
      congr 1
      simp only [Run.cells, List.length_cons, List.length_nil]
      omega
    rw [e, this]
    rfl

/-- One column more. -/
def runStep (rs : List Run) (i : Nat) (x : Int) : List Run :=
  match rs.getLast? with
  | some r => if r.x = x then rs.dropLast ++ [⟨r.a, i, r.x⟩] else rs ++ [⟨i, i, x⟩]
  | none => [⟨i, i, x⟩]

/-- What the runs of the first k columns are. -/
structure Runs (h : List Int) (k : Nat) (rs : List Run) : Prop where
  first : ∀ j (hj : j < rs.length), rs[j].a = if hj0 : 0 < j then (rs[j - 1]'(by omega)).b + 1 else 0
  le : ∀ j (hj : j < rs.length), rs[j].a ≤ rs[j].b ∧ rs[j].b < k
  same : ∀ j (hj : j < rs.length) c, rs[j].a ≤ c → c ≤ rs[j].b → h[c]? = some rs[j].x
  differ : ∀ j (hj : j + 1 < rs.length), rs[j].x ≠ rs[j + 1].x
  last : if hr : 0 < rs.length then (rs[rs.length - 1]'(by omega)).b + 1 = k else k = 0

theorem Runs.nil (h : List Int) : Runs h 0 [] := ⟨fun j hj => absurd hj (by simp), fun j hj => absurd hj (by simp), fun j hj => absurd hj (by simp), fun j hj => absurd hj (by simp), by simp⟩

theorem Runs.grow {h : List Int} {k : Nat} {rs : List Run} (hr : Runs h k rs) (hk : k < h.length) (hd : ∀ (_ : 0 < rs.length), (rs[rs.length - 1]'(by omega)).x ≠ h[k]) : Runs h (k + 1) (rs ++ [⟨k, k, h[k]⟩]) := by
  have hlast := hr.last
  refine ⟨fun j hj => ?_, fun j hj => ?_, fun j hj c h1 h2 => ?_, fun j hj => ?_, ?_⟩
  · by_cases e : j < rs.length
    · rw [List.getElem_append_left e, hr.first j e]
      split
      · rw [List.getElem_append_left (by omega)]
      · rfl
    · obtain rfl : j = rs.length := by simp at hj; omega
      rw [List.getElem_append_right (by omega)]
      split
      · rename_i h0
        rw [dif_pos h0] at hlast
        rw [List.getElem_append_left (by omega)]
        simpa using hlast.symm
      · rename_i h0
        rw [dif_neg h0] at hlast
        simpa using hlast
  · by_cases e : j < rs.length
    · rw [List.getElem_append_left e]; have := hr.le j e; omega
    · obtain rfl : j = rs.length := by simp at hj; omega
      rw [List.getElem_append_right (by omega)]; simp
  · by_cases e : j < rs.length
    · rw [List.getElem_append_left e] at h1 h2 ⊢; exact hr.same j e c h1 h2
    · obtain rfl : j = rs.length := by simp at hj; omega
      rw [List.getElem_append_right (by omega)] at h1 h2 ⊢
      simp at h1 h2 ⊢
      obtain rfl : c = k := by omega
      simp [hk]
  · by_cases e : j + 1 < rs.length
    · rw [List.getElem_append_left (by omega), List.getElem_append_left e]; exact hr.differ j e
    · obtain rfl : j = rs.length - 1 := by simp at hj; omega
      have h0 : 0 < rs.length := by simp at hj; omega
      rw [List.getElem_append_left (by omega), List.getElem_append_right (by omega)]
      simpa using hd h0
  · simp

theorem Runs.stretch {h : List Int} {k : Nat} {rs : List Run} {r : Run} (hr : Runs h k (rs ++ [r])) (hk : k < h.length) (hd : r.x = h[k]) : Runs h (k + 1) (rs ++ [⟨r.a, k, r.x⟩]) := by
  have hlast := hr.last
  rw [dif_pos (by simp)] at hlast
  simp at hlast
  refine ⟨fun j hj => ?_, fun j hj => ?_, fun j hj c h1 h2 => ?_, fun j hj => ?_, ?_⟩
  · have := hr.first j (by simpa using hj)
    by_cases e : j < rs.length
    · rw [List.getElem_append_left e] at this ⊢
      rw [this]
      split
      · rw [List.getElem_append_left (by omega), List.getElem_append_left (by omega)]
      · rfl
    · obtain rfl : j = rs.length := by simp at hj; omega
      rw [List.getElem_append_right (by omega)] at this ⊢
      simp only [Nat.sub_self, List.getElem_cons_zero] at this ⊢
      refine this.trans ?_
      split
      · rw [List.getElem_append_left (by omega), List.getElem_append_left (by omega)]
      · rfl
  · have := hr.le j (by simpa using hj)
    by_cases e : j < rs.length
    · rw [List.getElem_append_left e] at this ⊢; omega
    · obtain rfl : j = rs.length := by simp at hj; omega
      rw [List.getElem_append_right (by omega)] at this ⊢
      simp at this ⊢
      omega
  · have := hr.same j (by simpa using hj) c
    by_cases e : j < rs.length
    · rw [List.getElem_append_left e] at this h1 h2 ⊢; exact this h1 h2
    · obtain rfl : j = rs.length := by simp at hj; omega
      rw [List.getElem_append_right (by omega)] at this h1 h2 ⊢
      simp at this h1 h2 ⊢
      by_cases e2 : c = k
      · subst e2; simp [hk, hd]
      · exact this h1 (by omega)
  · have := hr.differ j (by simpa using hj)
    by_cases e : j + 1 < rs.length
    · rw [List.getElem_append_left (by omega), List.getElem_append_left e] at this ⊢; exact this
    · obtain rfl : j = rs.length - 1 := by simp at hj; omega
      rw [List.getElem_append_left (by simp at hj; omega), List.getElem_append_right (by omega)] at this ⊢
      simpa using this
  · simp
end Go.Proofs.Ytblcgfmgfepajaa
