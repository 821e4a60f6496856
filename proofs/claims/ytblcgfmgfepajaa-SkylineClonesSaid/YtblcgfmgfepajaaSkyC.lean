/- DERIVED. Contracts of package skyline, part C: Place, Occupy, Touches. -/
import Derived.Test.YtblcgfmgfepajaaSkyB
namespace Go.Proofs.Ytblcgfmgfepajaa
open Go.RowKit

theorem sizeB_iff {v : Int} : sizeB v = true ↔ 0 ≤ v ∧ v ≤ 1048576 := by simp [sizeB]

theorem side_range {side x : Int} (B : Int) (hs : side = 1 ∨ side = -1) (hx : -B ≤ x ∧ x ≤ B) : -B ≤ side * x ∧ side * x ≤ B := by
  rcases hs with hh | hh <;> rw [hh] <;> omega
theorem side_side {side : Int} (x : Int) (hs : side = 1 ∨ side = -1) : side * (side * x) = x := by
  rcases hs with hh | hh <;> rw [hh] <;> omega
theorem mul_side {side x : Int} (hs : side = 1 ∨ side = -1) (hx : -4611686018427387904 ≤ x ∧ x ≤ 4611686018427387904) : IntKind.i64.wrap (side * x) = side * x := by
  have := side_range _ hs hx
  exact IntWalk.i64_in _ (by omega)

/-- The edge that Place takes, outwards. -/
def edgeOf (side : Int) (h : List Int) (first last near gap : Int) : Int := max (side * near) (side * mostV side h first last + gap)
/-- The error of Place. -/
def placeE (side : Int) (h : List Int) (first last near high gap : Int) : Int :=
  if colErr h.length first last = 0 ∧ okB near = true ∧ sizeB high = true ∧ sizeB gap = true then (if okB (edgeOf side h first last near gap + high) = true then 0 else 9) else 2
def placeV (side : Int) (h : List Int) (first last near high gap : Int) : Int :=
  if placeE side h first last near high gap = 0 then side * edgeOf side h first last near gap else 0
def placeH (side : Int) (h : List Int) (first last near high gap : Int) : List Int :=
  if placeE side h first last near high gap = 0 then raised h first.toNat (last.toNat + 1) (edgeOf side h first last near gap + high) else h

theorem mostV_range {side : Int} {h : List Int} (hs : side = 1 ∨ side = -1) (hl : ∀ x ∈ h, -1048576 ≤ x ∧ x ≤ 1048576) (first last : Int) : -1048576 ≤ mostV side h first last ∧ mostV side h first last ≤ 1048576 := by
  unfold mostV
  split
  · have : -1048576 ≤ mostOut h first last ∧ mostOut h first last ≤ 1048576 := maxL_range fun x hx => hl x (List.mem_of_mem_drop (List.mem_of_mem_take hx))
    rcases hs with hh | hh <;> rw [hh] <;> omega
  · omega

set_option maxHeartbeats 1000000 in
theorem place_bad {w : World} {s g : Nat} {side : Int} {h : List Int} (hs : Sky w s g side h) (first last near high gap : Int)
    (hbad : ¬ (colErr h.length first last = 0 ∧ okB near = true ∧ sizeB high = true ∧ sizeB gap = true)) :
    Calls Try.prog 22 #[.pointer (some ⟨s, 0, none⟩), .int .i64 first, .int .i64 last, .int .i64 near, .int .i64 high, .int .i64 gap] w
      fun e w' => e = .returned (.tuple #[.int .i64 0, .int .i64 2]) ∧ ∃ n, w' = w.drewN n := by
  rcases colErr_cases h.length first last with ⟨h0, -, -, -⟩ | h0
  · cases h1 : okB near
    · clear hbad
      go_enter Try.func22, Try.ntmps22
      go_wp2_with (first
        | (go_at_call 16; refine (most_any hs _ _).mono ?_; rintro e w' ⟨rfl, n, rfl⟩)
        | (go_at_call 36; refine (permitted_any _ _).mono ?_; rintro e w' ⟨rfl, rfl⟩))
      go_ret2
      exact ⟨rfl, n, rfl⟩
    · cases h2 : sizeB high
      · clear hbad
        go_enter Try.func22, Try.ntmps22
        go_wp2_with (first
          | (go_at_call 16; refine (most_any hs _ _).mono ?_; rintro e w' ⟨rfl, n, rfl⟩)
          | (go_at_call 36; refine (permitted_any _ _).mono ?_; rintro e w' ⟨rfl, rfl⟩)
          | (go_at_call 41; refine (size_any _ _).mono ?_; rintro e w' ⟨rfl, rfl⟩))
        go_ret2
        exact ⟨rfl, n, rfl⟩
      · have h3 : sizeB gap = false := by
          cases h3 : sizeB gap
          · rfl
          · exact absurd ⟨h0, h1, h2, h3⟩ hbad
        clear hbad
        go_enter Try.func22, Try.ntmps22
        go_wp2_with (first
          | (go_at_call 16; refine (most_any hs _ _).mono ?_; rintro e w' ⟨rfl, n, rfl⟩)
          | (go_at_call 36; refine (permitted_any _ _).mono ?_; rintro e w' ⟨rfl, rfl⟩)
          | (go_at_call 41; refine (size_any _ _).mono ?_; rintro e w' ⟨rfl, rfl⟩))
        go_ret2
        exact ⟨rfl, n, rfl⟩
  · clear hbad
    go_enter Try.func22, Try.ntmps22
    go_wp2_with (go_at_call 16; refine (most_any hs _ _).mono ?_; rintro e w' ⟨rfl, n, rfl⟩)
    go_ret2
    exact ⟨rfl, n, rfl⟩

theorem edge_if (a b : Int) : (if a < b then b else a) = max a b := by omega

set_option maxHeartbeats 1000000 in
theorem place_ok {w : World} {s g : Nat} {side : Int} {h : List Int} (hs : Sky w s g side h) (first last near high gap : Int)
    (h0 : colErr h.length first last = 0) (h1 : okB near = true) (h2 : sizeB high = true) (h3 : sizeB gap = true) :
    Calls Try.prog 22 #[.pointer (some ⟨s, 0, none⟩), .int .i64 first, .int .i64 last, .int .i64 near, .int .i64 high, .int .i64 gap] w
      fun e w' => e = .returned (.tuple #[.int .i64 (placeV side h first last near high gap), .int .i64 (placeE side h first last near high gap)]) ∧ Sky w' s g side (placeH side h first last near high gap) ∧ Only [g] w w' := by
  have b0 := mostV_range hs.sides hs.low first last
  have b1 := okB_iff.1 h1
  have b2 := sizeB_iff.1 h2
  have b3 := sizeB_iff.1 h3
  have e1 := mul_side (x := near) hs.sides (by omega)
  have e2 := mul_side (x := mostV side h first last) hs.sides (by omega)
  have r1 := side_range 1048576 hs.sides b1
  have r2 := side_range 1048576 hs.sides b0
  have e3 : IntKind.i64.wrap (side * mostV side h first last + gap) = side * mostV side h first last + gap := IntWalk.i64_in _ (by omega)
  have bE : -4000000 ≤ edgeOf side h first last near gap ∧ edgeOf side h first last near gap ≤ 4000000 := by
    unfold edgeOf
    omega
  have e4 : (if side * near < side * mostV side h first last + gap then side * mostV side h first last + gap else side * near) = edgeOf side h first last near gap := edge_if _ _
  have hc0 := hs.side0
  have hPE : placeE side h first last near high gap = if okB (edgeOf side h first last near gap + high) = true then 0 else 9 := by rw [placeE, if_pos ⟨h0, h1, h2, h3⟩]
  by_cases h5 : okB (edgeOf side h first last near gap + high) = true
  · have HP := Lib.hid (show placeE side h first last near high gap = 0 by rw [hPE, if_pos h5])
    clear hPE
    have b5 := okB_iff.1 h5
    obtain ⟨a, b, ha, hb, hab, hbl⟩ : ∃ a b : Nat, first = (a : Int) ∧ last = (b : Int) ∧ a ≤ b ∧ b < h.length := by
      rcases colErr_cases h.length first last with ⟨-, c1, c2, c3⟩ | c
      · exact ⟨first.toNat, last.toNat, by omega, by omega, by omega, by omega⟩
      · omega
    subst ha hb
    have e6 := mul_side (x := edgeOf side h a b near gap + high) hs.sides (by omega)
    have e7 := mul_side (x := edgeOf side h a b near gap) hs.sides (by omega)
    have b6 := side_range 1048576 hs.sides b5
    have E8 := Lib.hid (side_side (edgeOf side h a b near gap + high) hs.sides)
    clear r1 r2
    go_enter Try.func22, Try.ntmps22
    go_wp2_with (first
      | (go_at_call 16; refine (most_any hs _ _).mono ?_; rintro e w' ⟨rfl, n, rfl⟩)
      | (go_at_call 36; refine (permitted_any _ _).mono ?_; rintro e w' ⟨rfl, rfl⟩)
      | (go_at_call 41; refine (size_any _ _).mono ?_; rintro e w' ⟨rfl, rfl⟩))
    go_quiet (fail)
    go_wp2_with (first
      | (go_at_call 36; refine (permitted_any _ _).mono ?_; rintro e w' ⟨rfl, rfl⟩)
      | (go_at_call 40; refine (raise_ok (hs.drewN _) a b _ hab hbl b6).mono ?_; rintro e w' ⟨rfl, hs', ho⟩; have hc1 := hs'.side0))
    go_ret2
    refine ⟨ret_int2 (by rw [placeV, if_pos HP.out]) HP.out.symm, ?_, (Only.of_drewN w [g] _).trans ho⟩
    rw [placeH, if_pos HP.out, ← E8.out]
    exact hs'
  · have h6 : okB (edgeOf side h first last near gap + high) = false := by simpa using h5
    have HP := Lib.hid (show placeE side h first last near high gap = 9 by rw [hPE, if_neg h5])
    clear hPE h5
    go_enter Try.func22, Try.ntmps22
    go_wp2_with (first
      | (go_at_call 16; refine (most_any hs _ _).mono ?_; rintro e w' ⟨rfl, n, rfl⟩)
      | (go_at_call 36; refine (permitted_any _ _).mono ?_; rintro e w' ⟨rfl, rfl⟩)
      | (go_at_call 41; refine (size_any _ _).mono ?_; rintro e w' ⟨rfl, rfl⟩))
    go_quiet (fail)
    go_wp2_with (go_at_call 36; refine (permitted_any _ _).mono ?_; rintro e w' ⟨rfl, rfl⟩)
    go_ret2
    have hn : ¬ placeE side h first last near high gap = 0 := by rw [HP.out]; omega
    refine ⟨ret_int2 (by rw [placeV, if_neg hn]) HP.out.symm, ?_, Only.of_drewN w [g] _⟩
    rw [placeH, if_neg hn]
    exact hs.drewN _

theorem Place_any {w : World} {s g : Nat} {side : Int} {h : List Int} (hs : Sky w s g side h) (first last near high gap : Int) :
    Calls Try.prog 22 #[.pointer (some ⟨s, 0, none⟩), .int .i64 first, .int .i64 last, .int .i64 near, .int .i64 high, .int .i64 gap] w
      fun e w' => e = .returned (.tuple #[.int .i64 (placeV side h first last near high gap), .int .i64 (placeE side h first last near high gap)]) ∧ Sky w' s g side (placeH side h first last near high gap) ∧ Only [g] w w' := by
  by_cases hb : colErr h.length first last = 0 ∧ okB near = true ∧ sizeB high = true ∧ sizeB gap = true
  · exact place_ok hs first last near high gap hb.1 hb.2.1 hb.2.2.1 hb.2.2.2
  · refine (place_bad hs first last near high gap hb).mono ?_
    rintro e w' ⟨rfl, n, rfl⟩
    have hp : placeE side h first last near high gap = 2 := by rw [placeE, if_neg hb]
    have hn : ¬ placeE side h first last near high gap = 0 := by omega
    exact ⟨ret_int2 (by rw [placeV, if_neg hn]) hp.symm, by rw [placeH, if_neg hn]; exact hs.drewN n, Only.of_drewN w [g] n⟩

theorem placeH_len (side : Int) (h : List Int) (first last near high gap : Int) : (placeH side h first last near high gap).length = h.length := by
  unfold placeH
  split
  · exact raised_len ..
  · rfl

/-- The edge of a box that counts on a side. -/
def occV (side t b : Int) : Int := if side = 1 then t else b

set_option maxHeartbeats 1000000 in
theorem Occupy_any {w : World} {s g : Nat} {side : Int} {h : List Int} (hs : Sky w s g side h) (first last l b r t : Int) :
    Calls Try.prog 47 #[.pointer (some ⟨s, 0, none⟩), .int .i64 first, .int .i64 last, .agg #[.int .i64 l, .int .i64 b, .int .i64 r, .int .i64 t]] w
      fun e w' => e = .returned (.int .i64 (raiseE h first last (occV side t b))) ∧ Sky w' s g side (raiseH side h first last (occV side t b)) ∧ Only [g] w w' := by
  rcases hs.sides with hh | hh
  all_goals
    subst hh
    go_enter Try.func47, Try.ntmps47
    go_wp2_with (first
      | (go_at_call 18; refine (side_any (hs.alloc _)).mono ?_; rintro e w' ⟨rfl, rfl⟩)
      | (go_at_call 21; refine (Raise_any (hs.alloc _) _ _ _).mono ?_; rintro e w' ⟨rfl, hs', ho⟩))
    go_ret
    refine ⟨by simp [occV], by simpa [occV] using hs', ((Only.refl [g] w).alloc _).trans ho⟩

/-- What Touches gives. -/
def touchB (side : Int) (h : List Int) (first last b t : Int) : Bool :=
  if colErr h.length first last = 0 ∧ b < t then (if side = 1 then decide (b < mostV side h first last) else decide (mostV side h first last < t)) else false

set_option maxHeartbeats 1000000 in
theorem Touches_any {w : World} {s g : Nat} {side : Int} {h : List Int} (hs : Sky w s g side h) (first last l b r t : Int) :
    Calls Try.prog 24 #[.pointer (some ⟨s, 0, none⟩), .int .i64 first, .int .i64 last, .agg #[.int .i64 l, .int .i64 b, .int .i64 r, .int .i64 t]] w
      fun e w' => e = .returned (.bool (touchB side h first last b t)) ∧ Only [] w w' := by
  have hc0 := hs.side0
  have hlt := hs.head.lt
  rcases colErr_cases h.length first last with ⟨h0, -, -, -⟩ | h0
  · by_cases hbt : b < t
    · rcases hs.sides with hh | hh
      all_goals
        subst hh
        go_enter Try.func24, Try.ntmps24
        go_wp2_with (go_at_call 16; refine (most_any (hs.alloc _) _ _).mono ?_; rintro e w' ⟨rfl, n, rfl⟩)
        go_ret
        exact ⟨ret_bool (by simp [touchB, h0, hbt]), ((Only.refl [] w).alloc _).drewN _⟩
    · have hd : decide (t ≤ b) = true := by simp; omega
      go_enter Try.func24, Try.ntmps24
      go_wp2_with (go_at_call 16; refine (most_any (hs.alloc _) _ _).mono ?_; rintro e w' ⟨rfl, n, rfl⟩)
      go_ret
      exact ⟨ret_bool (by rw [touchB, if_neg (by omega)]), ((Only.refl [] w).alloc _).drewN _⟩
  · go_enter Try.func24, Try.ntmps24
    go_wp2_with (go_at_call 16; refine (most_any (hs.alloc _) _ _).mono ?_; rintro e w' ⟨rfl, n, rfl⟩)
    go_ret
    exact ⟨ret_bool (by simp [touchB, h0]), ((Only.refl [] w).alloc _).drewN _⟩
end Go.Proofs.Ytblcgfmgfepajaa
