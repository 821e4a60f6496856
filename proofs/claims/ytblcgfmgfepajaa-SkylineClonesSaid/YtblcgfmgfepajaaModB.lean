/- DERIVED. Contracts of the statements' model, part B: raise, place, occupy, touches. -/
import Derived.Test.YtblcgfmgfepajaaModA
import Derived.Deep.RegionHeld3
import Derived.Deep.DrawnRows
namespace Go.Proofs.Ytblcgfmgfepajaa
open Go.RowKit
attribute [local go_sem ↓] Go.wp_at_zero Go.wp_at_succ

theorem colB_true {n : Nat} {first last : Int} (h : colErr n first last = 0) : colB n first last = true := by simp [colB, h]
theorem colB_false {n : Nat} {first last : Int} (h : colErr n first last = 2) : colB n first last = false := by simp [colB, h]
theorem col_nats {n : Nat} {first last : Int} (h : colErr n first last = 0) : ∃ a b : Nat, first = (a : Int) ∧ last = (b : Int) ∧ a ≤ b ∧ b < n := by
  rcases colErr_cases n first last with ⟨-, c1, c2, c3⟩ | c
  · exact ⟨first.toNat, last.toNat, by omega, by omega, by omega, by omega⟩
  · omega

set_option maxHeartbeats 400000 in
theorem mraise_any {w : World} {m g cap : Nat} {sp : List Value} {side : Int} {h : List Int} (hs : Mod w m g cap sp side h) (first last v : Int) :
    Calls Try.prog 34 #[.pointer (some ⟨m, 0, none⟩), .int .i64 first, .int .i64 last, .int .i64 v] w
      fun e w' => e = .returned (.int .i64 (raiseE h first last v)) ∧ Mod w' m g cap sp side (raiseH side h first last v) ∧ Only [g] w w' := by
  rcases colErr_cases h.length first last with ⟨h0, -, -, -⟩ | h0
  · cases hv : okB v
    · have hn : ¬ (colErr h.length first last = 0 ∧ okB v = true) := by rw [hv]; simp
      have HN := Lib.hid hn
      clear hn
      have hb := colB_true h0
      go_enter Try.func34, Try.ntmps34
      go_wp2_with (first
        | (go_at_call 27; refine (mcolumns_any hs _ _).mono ?_; rintro e w' ⟨rfl, rfl⟩)
        | (go_at_call 15; refine (mok_any _ _).mono ?_; rintro e w' ⟨rfl, rfl⟩))
      go_ret
      exact ⟨ret_int (by rw [raiseE, if_neg HN.out]), by rw [raiseH, if_neg HN.out]; exact hs, Only.refl _ _⟩
    · obtain ⟨a, b, rfl, rfl, hab, hb⟩ := col_nats h0
      refine (mraise_ok hs a b v hab hb hv (colB_true h0)).mono ?_
      rintro e w' ⟨rfl, hm, ho⟩
      exact ⟨ret_int (by rw [raiseE, if_pos ⟨h0, hv⟩]), by rw [raiseH, if_pos ⟨h0, hv⟩]; simpa using hm, ho⟩
  · have hn : ¬ (colErr h.length first last = 0 ∧ okB v = true) := by rw [h0]; simp
    have HN := Lib.hid hn
    clear hn
    have hb := colB_false h0
    go_enter Try.func34, Try.ntmps34
    go_wp2_with (go_at_call 27; refine (mcolumns_any hs _ _).mono ?_; rintro e w' ⟨rfl, rfl⟩)
    go_ret
    exact ⟨ret_int (by rw [raiseE, if_neg HN.out]), by rw [raiseH, if_neg HN.out]; exact hs, Only.refl _ _⟩

set_option maxHeartbeats 1000000 in
theorem moccupy_any {w : World} {m g cap : Nat} {sp : List Value} {side : Int} {h : List Int} (hs : Mod w m g cap sp side h) (first last l b r t : Int) :
    Calls Try.prog 48 #[.pointer (some ⟨m, 0, none⟩), .int .i64 first, .int .i64 last, .agg #[.int .i64 l, .int .i64 b, .int .i64 r, .int .i64 t]] w
      fun e w' => e = .returned (.int .i64 (raiseE h first last (occV side t b))) ∧ Mod w' m g cap sp side (raiseH side h first last (occV side t b)) ∧ Only [g] w w' := by
  have hc0 := hs.side0
  have hlt := hs.head.lt
  rcases hs.sides with hh | hh
  all_goals
    subst hh
    go_enter Try.func48, Try.ntmps48
    go_wp2_with (go_at_call 34; refine (mraise_any (hs.alloc _) _ _ _).mono ?_; rintro e w' ⟨rfl, hs', ho⟩)
    go_ret
    refine ⟨by simp [occV], by simpa [occV] using hs', ((Only.refl [g] w).alloc _).trans ho⟩

set_option maxHeartbeats 1000000 in
theorem mplace_bad {w : World} {m g cap : Nat} {sp : List Value} {side : Int} {h : List Int} (hs : Mod w m g cap sp side h) (first last near high gap : Int)
    (hbad : ¬ (colErr h.length first last = 0 ∧ okB near = true ∧ sizeB high = true ∧ sizeB gap = true)) :
    Calls Try.prog 46 #[.pointer (some ⟨m, 0, none⟩), .int .i64 first, .int .i64 last, .int .i64 near, .int .i64 high, .int .i64 gap] w
      fun e w' => e = .returned (.tuple #[.int .i64 0, .int .i64 2]) ∧ w = w' := by
  rcases colErr_cases h.length first last with ⟨h0, -, -, -⟩ | h0
  · have hb := colB_true h0
    cases h1 : okB near
    · clear hbad h0
      go_enter Try.func46, Try.ntmps46
      go_wp2_with (first
        | (go_at_call 27; refine (mcolumns_any hs _ _).mono ?_; rintro e w' ⟨rfl, rfl⟩)
        | (go_at_call 15; refine (mok_any _ _).mono ?_; rintro e w' ⟨rfl, rfl⟩))
      go_ret2
      exact ⟨rfl, rfl⟩
    · cases h2 : sizeB high
      · clear hbad h0
        go_enter Try.func46, Try.ntmps46
        go_wp2_with (first
          | (go_at_call 27; refine (mcolumns_any hs _ _).mono ?_; rintro e w' ⟨rfl, rfl⟩)
          | (go_at_call 15; refine (mok_any _ _).mono ?_; rintro e w' ⟨rfl, rfl⟩)
          | (go_at_call 31; refine (msize_any _ _).mono ?_; rintro e w' ⟨rfl, rfl⟩))
        go_ret2
        exact ⟨rfl, rfl⟩
      · have h3 : sizeB gap = false := by
          cases h3 : sizeB gap
          · rfl
          · exact absurd ⟨h0, h1, h2, h3⟩ hbad
        clear hbad h0
        go_enter Try.func46, Try.ntmps46
        go_wp2_with (first
          | (go_at_call 27; refine (mcolumns_any hs _ _).mono ?_; rintro e w' ⟨rfl, rfl⟩)
          | (go_at_call 15; refine (mok_any _ _).mono ?_; rintro e w' ⟨rfl, rfl⟩)
          | (go_at_call 31; refine (msize_any _ _).mono ?_; rintro e w' ⟨rfl, rfl⟩))
        go_ret2
        exact ⟨rfl, rfl⟩
  · have hb := colB_false h0
    clear hbad h0
    go_enter Try.func46, Try.ntmps46
    go_wp2_with (go_at_call 27; refine (mcolumns_any hs _ _).mono ?_; rintro e w' ⟨rfl, rfl⟩)
    go_ret2
    exact ⟨rfl, rfl⟩

theorem mmost_any {w : World} {m g cap : Nat} {sp : List Value} {side : Int} {h : List Int} (hs : Mod w m g cap sp side h) (first last : Int) (h0 : colErr h.length first last = 0) :
    Calls Try.prog 28 #[.pointer (some ⟨m, 0, none⟩), .int .i64 first, .int .i64 last] w
      fun e w' => e = .returned (.int .i64 (mostV side h first last)) ∧ ∃ n, w' = w.drewN n := by
  obtain ⟨a, b, rfl, rfl, hab, hb⟩ := col_nats h0
  refine (mmost_ok hs a b hab hb).mono ?_
  rintro e w' ⟨rfl, n, hn⟩
  exact ⟨ret_int (by rw [mostV, if_pos h0]), n, hn⟩

set_option maxHeartbeats 1000000 in
theorem mplace_ok {w : World} {m g cap : Nat} {sp : List Value} {side : Int} {h : List Int} (hs : Mod w m g cap sp side h) (first last near high gap : Int)
    (h0 : colErr h.length first last = 0) (h1 : okB near = true) (h2 : sizeB high = true) (h3 : sizeB gap = true) :
    Calls Try.prog 46 #[.pointer (some ⟨m, 0, none⟩), .int .i64 first, .int .i64 last, .int .i64 near, .int .i64 high, .int .i64 gap] w
      fun e w' => e = .returned (.tuple #[.int .i64 (placeV side h first last near high gap), .int .i64 (placeE side h first last near high gap)]) ∧ Mod w' m g cap sp side (placeH side h first last near high gap) ∧ Only [g] w w' := by
  have hb := colB_true h0
  have b0 := mostV_range hs.sides hs.low first last
  have b1 := okB_iff.1 h1
  have b2 := sizeB_iff.1 h2
  have b3 := sizeB_iff.1 h3
  have e1 := mul_side (x := near) hs.sides (by omega)
  have e2 := mul_side (x := mostV side h first last) hs.sides (by omega)
  have r1 := side_range 1048576 hs.sides b1
  have r2 := side_range 1048576 hs.sides b0
  have e3 : IntKind.i64.wrap (side * mostV side h first last + gap) = side * mostV side h first last + gap := IntWalk.i64_in _ (by omega)
  have bE : -4000000 ≤ edgeOf side h first last near gap ∧ edgeOf side h first last near gap ≤ 4000000 := by
    unfold edgeOf
    omega
  have e4 : (if side * near < side * mostV side h first last + gap then side * mostV side h first last + gap else side * near) = edgeOf side h first last near gap := edge_if _ _
  have hc0 := hs.side0
  have hPE : placeE side h first last near high gap = if okB (edgeOf side h first last near gap + high) = true then 0 else 9 := by rw [placeE, if_pos ⟨h0, h1, h2, h3⟩]
  have H0 := Lib.hid h0
  clear h0
  by_cases h5 : okB (edgeOf side h first last near gap + high) = true
  · have HP := Lib.hid (show placeE side h first last near high gap = 0 by rw [hPE, if_pos h5])
    clear hPE
    have b5 := okB_iff.1 h5
    have e6 := mul_side (x := edgeOf side h first last near gap + high) hs.sides (by omega)
    have e7 := mul_side (x := edgeOf side h first last near gap) hs.sides (by omega)
    have b6 := side_range 1048576 hs.sides b5
    have E8 := Lib.hid (side_side (edgeOf side h first last near gap + high) hs.sides)
    clear r1 r2
    go_enter Try.func46, Try.ntmps46
    go_wp2_with (first
      | (go_at_call 27; refine (mcolumns_any hs _ _).mono ?_; rintro e w' ⟨rfl, rfl⟩)
      | (go_at_call 15; refine (mok_any _ _).mono ?_; rintro e w' ⟨rfl, rfl⟩)
      | (go_at_call 31; refine (msize_any _ _).mono ?_; rintro e w' ⟨rfl, rfl⟩))
    go_quiet ((go_at_call 28; exact Calls.quiet_of (mmost_any (hs.drewN _) _ _ H0.out)))
    go_wp2_with (go_at_call 15; refine (mok_any _ _).mono ?_; rintro e w' ⟨rfl, rfl⟩)
    have E6 := Lib.hid b6
    have e5 : IntKind.i64.wrap (edgeOf side h first last near gap + high) = edgeOf side h first last near gap + high := IntWalk.i64_in _ (by omega)
    go_region_held3 (fun w' => w'.cell? ⟨m, 0, none⟩ = some (.int .i64 side)) (first | exact hc0 | exact hc1) (first
      | (go_at_call 34; refine (mraise_any (hs.drewN nq).drew _ _ _).mono ?_; rintro e w' ⟨rfl, hs', ho⟩; have hc1 := hs'.side0))
    go_wp2
    go_ret2
    have hr : colErr h.length first last = 0 ∧ okB (side * (edgeOf side h first last near gap + high)) = true := ⟨H0.out, okB_iff.2 E6.out⟩
    refine ⟨ret_int2 (by rw [placeV, if_pos HP.out]) (by rw [HP.out, raiseE, if_pos hr]), ?_, (Only.of_drewN w [g] _).drew.trans ho⟩
    rw [placeH, if_pos HP.out]
    rw [raiseH, if_pos hr, E8.out] at hs'
    exact hs'
  · have h6 : okB (edgeOf side h first last near gap + high) = false := by simpa using h5
    have HP := Lib.hid (show placeE side h first last near high gap = 9 by rw [hPE, if_neg h5])
    clear hPE h5
    go_enter Try.func46, Try.ntmps46
    go_wp2_with (first
      | (go_at_call 27; refine (mcolumns_any hs _ _).mono ?_; rintro e w' ⟨rfl, rfl⟩)
      | (go_at_call 15; refine (mok_any _ _).mono ?_; rintro e w' ⟨rfl, rfl⟩)
      | (go_at_call 31; refine (msize_any _ _).mono ?_; rintro e w' ⟨rfl, rfl⟩))
    go_quiet ((go_at_call 28; exact Calls.quiet_of (mmost_any (hs.drewN _) _ _ H0.out)))
    go_wp2_with (go_at_call 15; refine (mok_any _ _).mono ?_; rintro e w' ⟨rfl, rfl⟩)
    go_ret2
    have hn : ¬ placeE side h first last near high gap = 0 := by rw [HP.out]; omega
    refine ⟨ret_int2 (by rw [placeV, if_neg hn]) HP.out.symm, ?_, Only.of_drewN w [g] _⟩
    rw [placeH, if_neg hn]
    exact hs.drewN _

theorem mplace_any {w : World} {m g cap : Nat} {sp : List Value} {side : Int} {h : List Int} (hs : Mod w m g cap sp side h) (first last near high gap : Int) :
    Calls Try.prog 46 #[.pointer (some ⟨m, 0, none⟩), .int .i64 first, .int .i64 last, .int .i64 near, .int .i64 high, .int .i64 gap] w
      fun e w' => e = .returned (.tuple #[.int .i64 (placeV side h first last near high gap), .int .i64 (placeE side h first last near high gap)]) ∧ Mod w' m g cap sp side (placeH side h first last near high gap) ∧ Only [g] w w' := by
  by_cases hb : colErr h.length first last = 0 ∧ okB near = true ∧ sizeB high = true ∧ sizeB gap = true
  · exact mplace_ok hs first last near high gap hb.1 hb.2.1 hb.2.2.1 hb.2.2.2
  · refine (mplace_bad hs first last near high gap hb).mono ?_
    rintro e w' ⟨rfl, rfl⟩
    have hp : placeE side h first last near high gap = 2 := by rw [placeE, if_neg hb]
    have hn : ¬ placeE side h first last near high gap = 0 := by omega
    exact ⟨ret_int2 (by rw [placeV, if_neg hn]) hp.symm, by rw [placeH, if_neg hn]; exact hs, Only.refl _ _⟩
end Go.Proofs.Ytblcgfmgfepajaa
