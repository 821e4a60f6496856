/- DERIVED. SkylineFree: the plain law of Place. -/
import Derived.Test.YtblcgfmgfepajaaPlays
namespace Go.Proofs.Ytblcgfmgfepajaa
open Go.RowKit

theorem foldl_max_ge : ∀ (l : List Int) (a : Int), a ≤ l.foldl max a ∧ ∀ x ∈ l, x ≤ l.foldl max a
  | [], a => ⟨Int.le_refl _, fun _ h => by cases h⟩
  | y :: l, a => by
    have h := foldl_max_ge l (max a y)
    rw [List.foldl_cons]
    refine ⟨by omega, fun x hx => ?_⟩
    rcases List.mem_cons.1 hx with e | e
    · subst e
      omega
    · exact h.2 x e
theorem maxL_ge {l : List Int} {x : Int} (hx : x ∈ l) : x ≤ maxL l := by
  cases l with
  | nil => cases hx
  | cons a l =>
    rcases List.mem_cons.1 hx with e | e
    · subst e
      exact (foldl_max_ge l x).1
    · exact (foldl_max_ge l a).2 x e

theorem mostOut_raised (h : List Int) (a b : Nat) (v : Int) (hab : a ≤ b) (hb : b < h.length) : v ≤ mostOut (raised h a (b + 1) v) a b := by
  have hl : a < (raised h a (b + 1) v).length := by rw [raised_len]; omega
  have h1 : v ≤ (raised h a (b + 1) v)[a] := by
    rw [raised_get, if_pos (by omega)]
    split <;> omega
  refine Int.le_trans h1 (maxL_ge ?_)
  rw [List.mem_iff_getElem]
  refine ⟨0, by simp [raised_len]; omega, by simp⟩

theorem touch_not {side : Int} {h : List Int} {a b : Nat} (bo t : Int) (h0 : colErr h.length a b = 0) (hs : side = 1 ∨ side = -1)
    (e1 : side = 1 → mostOut h a b ≤ bo) (e2 : side = -1 → t ≤ -mostOut h a b) : touchB side h a b bo t = false := by
  unfold touchB
  split
  · rw [mostV, if_pos h0]
    rcases hs with hh | hh
    · subst hh
      have := e1 rfl
      simp
      omega
    · subst hh
      have := e2 rfl
      simp
      omega
  · rfl
theorem touch_yes {side : Int} {h : List Int} {a b : Nat} (bo t : Int) (h0 : colErr h.length a b = 0) (hs : side = 1 ∨ side = -1) (hbt : bo < t)
    (e1 : side = 1 → bo < mostOut h a b) (e2 : side = -1 → -mostOut h a b < t) : touchB side h a b bo t = true := by
  unfold touchB
  rw [if_pos ⟨h0, hbt⟩, mostV, if_pos h0]
  rcases hs with hh | hh
  · subst hh
    have := e1 rfl
    simp
    omega
  · subst hh
    have := e2 rfl
    simp
    omega

/-- What is known of a thing that has been placed where there is room. -/
structure PlacedWell (side : Int) (h : List Int) (a b : Nat) (near high gap E : Int) : Prop where
  err : placeE side h a b near high gap = 0
  val : placeV side h a b near high gap = side * E
  eE : -2000000 ≤ E ∧ E ≤ 2000000
  e0 : side * near ≤ E
  e1 : mostOut h a b + gap ≤ E
  e2 : E = side * near ∨ E = mostOut h a b + gap
  old1 : side = 1 → touchB side h a b E (E + high) = false
  old2 : side = -1 → touchB side h a b (-E - high) (-E) = false
  new1 : side = 1 → touchB side (placeH side h a b near high gap) a b E (E + high) = true
  new2 : side = -1 → touchB side (placeH side h a b near high gap) a b (-E - high) (-E) = true

theorem mostOut_range {h : List Int} (hl : ∀ x ∈ h, -1048576 ≤ x ∧ x ≤ 1048576) (a b : Int) : -1048576 ≤ mostOut h a b ∧ mostOut h a b ≤ 1048576 :=
  maxL_range fun x hx => hl x (List.mem_of_mem_drop (List.mem_of_mem_take hx))

theorem placed_well {side : Int} {h : List Int} {a b : Nat} {near high gap : Int} (hs : side = 1 ∨ side = -1) (hl : ∀ x ∈ h, -1048576 ≤ x ∧ x ≤ 1048576) (hab : a ≤ b) (hb : b < h.length)
    (hn : -1000 < near ∧ near < 1000) (hh : 1 ≤ high ∧ high ≤ 1000) (hg : 0 ≤ gap ∧ gap < 1000) (hm : mostOut h a b ≤ 524288) :
    PlacedWell side h a b near high gap (edgeOf side h a b near gap) := by
  have h0 : colErr h.length (a : Int) (b : Int) = 0 := by unfold colErr; split <;> omega
  have hr := mostOut_range hl a b
  have hv : side * mostV side h a b = mostOut h a b := by rw [mostV, if_pos h0, side_side _ hs]
  have hE : edgeOf side h a b near gap = max (side * near) (mostOut h a b + gap) := by rw [edgeOf, hv]
  generalize edgeOf side h a b near gap = E at hE ⊢
  have hE' : edgeOf side h a b near gap = E := by rw [edgeOf, hv, hE]
  have hsn : -1000 < side * near ∧ side * near < 1000 := by rcases hs with e | e <;> rw [e] <;> omega
  have k1 : okB near = true := okB_iff.2 (by omega)
  have k2 : sizeB high = true := sizeB_iff.2 (by omega)
  have k3 : sizeB gap = true := sizeB_iff.2 (by omega)
  have k4 : okB (E + high) = true := okB_iff.2 (by omega)
  have he : placeE side h a b near high gap = 0 := by rw [placeE, if_pos ⟨h0, k1, k2, k3⟩, hE', if_pos k4]
  have hH : placeH side h a b near high gap = raised h a (b + 1) (E + high) := by
    rw [placeH, if_pos he, hE']
    simp
  have hup := mostOut_raised h a b (E + high) hab hb
  have h0' : colErr (raised h a (b + 1) (E + high)).length (a : Int) (b : Int) = 0 := by rw [raised_len]; exact h0
  refine ⟨he, by rw [placeV, if_pos he, hE'], by omega, by omega, by omega, by omega, fun e => ?_, fun e => ?_, fun e => ?_, fun e => ?_⟩
  · exact touch_not _ _ h0 hs (fun _ => by omega) (fun e' => by omega)
  · exact touch_not _ _ h0 hs (fun e' => by omega) (fun _ => by omega)
  · rw [hH]
    exact touch_yes _ _ h0' hs (by omega) (fun _ => by omega) (fun e' => by omega)
  · rw [hH]
    exact touch_yes _ _ h0' hs (by omega) (fun e' => by omega) (fun _ => by omega)

theorem place_err {side : Int} {h : List Int} {a b : Nat} {near high gap : Int} (hab : a ≤ b) (hb : b < h.length)
    (hn : -1000 < near ∧ near < 1000) (hh : 1 ≤ high ∧ high ≤ 1000) (hg : 0 ≤ gap ∧ gap < 1000) : placeE side h a b near high gap = 0 ∨ placeE side h a b near high gap = 9 := by
  have h0 : colErr h.length (a : Int) (b : Int) = 0 := by unfold colErr; split <;> omega
  have k1 : okB near = true := okB_iff.2 (by omega)
  have k2 : sizeB high = true := sizeB_iff.2 (by omega)
  have k3 : sizeB gap = true := sizeB_iff.2 (by omega)
  rw [placeE, if_pos ⟨h0, k1, k2, k3⟩]
  split
  · exact .inl rfl
  · exact .inr rfl
end Go.Proofs.Ytblcgfmgfepajaa
