/- DERIVED. SkylineBegins: the walk. -/
import Derived.Test.YtblcgfmgfepajaaKnown
import Derived.Test.YtblcgfmgfepajaaModA
namespace Go.Proofs.Ytblcgfmgfepajaa
open Go.RowKit

theorem newH_most (side : Int) (hs : side = 1 ∨ side = -1) (n : Nat) (v : Int) (a b : Nat) (hab : a ≤ b) (hb : b < n) : mostV side (newH side n v) a b = v := by
  have hl : (newH side n v).length = n := by simp [newH]
  have h0 : colErr (newH side n v).length a b = 0 := by rw [hl]; unfold colErr; split <;> omega
  rw [mostV, if_pos h0, ← mostTo_all _ a b hab (by omega)]
  have : mostTo (newH side n v) a (b + 1) = side * v := by
    unfold mostTo newH
    rw [List.drop_replicate, List.take_replicate]
    have e : (List.replicate n (side * v)).getD a 0 = side * v := by simp [List.getD, show a < n by omega]
    rw [e]
    generalize min (b + 1 - a) (n - a) = k
    induction k with
    | zero => rfl
    | succ k ih => rw [List.replicate_succ, List.foldl_cons, Int.max_self]; exact ih
  rw [this, side_side v hs]

/-- What the law asks of a new skyline. -/
structure Facts (side n v : Int) : Prop where
  k1 : mostV side (newH side n.toNat v) 0 (n - 1) = v
  k2 : colErr (newH side n.toNat v).length 0 (n - 1) = 0
  k3 : colErr (newH side n.toNat v).length n n = 2
  k4 : mostV side (newH side n.toNat v) n n = 0
  k5 : colErr (newH side n.toNat v).length 1 0 = 2
  k6 : mostV side (newH side n.toNat v) 1 0 = 0
  k7 : colErr (newH side n.toNat v).length (-1) (-1) = 2
  k8 : mostV side (newH side n.toNat v) (-1) (-1) = 0
  k9 : ((newH side n.toNat v).length : Int) = n

theorem facts (side n v : Int) (hs : side = 1 ∨ side = -1) (h1 : 1 ≤ n) : Facts side n v := by
  obtain ⟨m, rfl⟩ := Int.eq_ofNat_of_zero_le (show 0 ≤ n by omega)
  have hl : (newH side m v).length = m := by simp [newH]
  have k3 : colErr (newH side m v).length m m = 2 := by rw [hl]; unfold colErr; split <;> omega
  have k5 : colErr (newH side m v).length 1 0 = 2 := by unfold colErr; split <;> omega
  have k7 : colErr (newH side m v).length (-1) (-1) = 2 := by unfold colErr; split <;> omega
  refine ⟨?_, ?_, k3, ?_, k5, ?_, k7, ?_, ?_⟩
  · have := newH_most side hs m v 0 (m - 1) (by omega) (by omega)
    rw [show ((m : Int) - 1) = ((m - 1 : Nat) : Int) by omega]
    exact this
  · rw [Int.toNat_natCast, hl]; unfold colErr; split <;> omega
  · rw [mostV, if_neg (by rw [Int.toNat_natCast, k3]; omega)]
  · rw [mostV, if_neg (by rw [Int.toNat_natCast, k5]; omega)]
  · rw [mostV, if_neg (by rw [Int.toNat_natCast, k7]; omega)]
  · rw [Int.toNat_natCast, hl]

set_option maxHeartbeats 1000000 in
theorem begins_ok (side columns height : Int) (w : World) (hs : side = 1 ∨ side = -1) (h1 : 1 ≤ columns) (h2 : columns ≤ 65536) (h3 : okB height = true) :
    Calls Try.prog 3 #[.int .i64 side, .int .i64 columns, .int .i64 height] w fun e w' => e = .returned (.bool true) ∧ Only [] w w' := by
  have hh := okB_iff.1 h3
  by_cases hbig : 300 < columns
  · have F := facts side (300) height hs (by omega)
    obtain ⟨k1, k2, k3, k4, k5, k6, k7, k8, k9⟩ := F
    generalize hN : newH side (Int.toNat (300)) height = H at k1 k2 k3 k4 k5 k6 k7 k8 k9
    have HN := Lib.hid hN
    clear hN
    rcases hs with rfl | rfl
    all_goals
      go_enter Try.func3, Try.ntmps3
      go_wp2_with (first
        | (go_at_call 13; refine (known_any _).mono ?_; rintro e w1 ⟨rfl, ho1⟩)
        | (go_at_call 14; refine (new_okI _ _ height (by first | exact Or.inl rfl | exact Or.inr rfl) (by omega) (by omega) hh _).mono ?_; rintro e w2 ⟨s, g, rfl, hsa, hga, hsky, ho2⟩; rw [HN.out] at hsky)
        | (go_at_call 15; refine (mok_any _ _).mono ?_; rintro e w' ⟨rfl, rfl⟩)
        | (go_at_call 16; refine (most_any hsky _ _).mono ?_; rintro e w' ⟨rfl, n, rfl⟩)
        | (go_at_call 16; refine (most_any (hsky.drewN _) _ _).mono ?_; rintro e w' ⟨rfl, n, rfl⟩)
        | (go_at_call 17; refine (at_any (hsky.drewN _) _).mono ?_; rintro e w' ⟨rfl, n, rfl⟩)
        | (go_at_call 18; refine (side_any (hsky.drewN _)).mono ?_; rintro e w' ⟨rfl, rfl⟩)
        | (go_at_call 19; refine (ncols_any (hsky.drewN _)).mono ?_; rintro e w' ⟨rfl, rfl⟩))
      go_ret
      exact ⟨rfl, (ho1.trans ho2).drewN _⟩
  · have F := facts side (columns) height hs (by omega)
    obtain ⟨k1, k2, k3, k4, k5, k6, k7, k8, k9⟩ := F
    generalize hN : newH side (Int.toNat (columns)) height = H at k1 k2 k3 k4 k5 k6 k7 k8 k9
    have HN := Lib.hid hN
    clear hN
    rcases hs with rfl | rfl
    all_goals
      go_enter Try.func3, Try.ntmps3
      go_wp2_with (first
        | (go_at_call 13; refine (known_any _).mono ?_; rintro e w1 ⟨rfl, ho1⟩)
        | (go_at_call 14; refine (new_okI _ _ height (by first | exact Or.inl rfl | exact Or.inr rfl) (by omega) (by omega) hh _).mono ?_; rintro e w2 ⟨s, g, rfl, hsa, hga, hsky, ho2⟩; rw [HN.out] at hsky)
        | (go_at_call 15; refine (mok_any _ _).mono ?_; rintro e w' ⟨rfl, rfl⟩)
        | (go_at_call 16; refine (most_any hsky _ _).mono ?_; rintro e w' ⟨rfl, n, rfl⟩)
        | (go_at_call 16; refine (most_any (hsky.drewN _) _ _).mono ?_; rintro e w' ⟨rfl, n, rfl⟩)
        | (go_at_call 17; refine (at_any (hsky.drewN _) _).mono ?_; rintro e w' ⟨rfl, n, rfl⟩)
        | (go_at_call 18; refine (side_any (hsky.drewN _)).mono ?_; rintro e w' ⟨rfl, rfl⟩)
        | (go_at_call 19; refine (ncols_any (hsky.drewN _)).mono ?_; rintro e w' ⟨rfl, rfl⟩))
      go_ret
      exact ⟨rfl, (ho1.trans ho2).drewN _⟩

set_option maxHeartbeats 1000000 in
theorem begins_kind (side columns height : Int) (w : World) (h1 : side ≠ 1) (h2 : side ≠ -1) :
    Calls Try.prog 3 #[.int .i64 side, .int .i64 columns, .int .i64 height] w fun e w' => e = .returned (.bool true) ∧ Only [] w w' := by
  have e1 : (side != 1) = true := by simpa using h1
  have e2 : (side != -1) = true := by simpa using h2
  by_cases hbig : 300 < columns
  all_goals
    go_enter Try.func3, Try.ntmps3
    go_wp2_with (first
      | (go_at_call 13; refine (known_any _).mono ?_; rintro e w1 ⟨rfl, ho1⟩)
      | (go_at_call 14; refine (new_kind _ _ _ h1 h2 _).mono ?_; rintro e w2 ⟨rfl, rfl⟩))
    all_goals
      go_ret
      exact ⟨rfl, ho1⟩

set_option maxHeartbeats 1000000 in
theorem begins_range (side columns height : Int) (w : World) (hs : side = 1 ∨ side = -1) (h : columns < 1 ∨ 65536 < columns) :
    Calls Try.prog 3 #[.int .i64 side, .int .i64 columns, .int .i64 height] w fun e w' => e = .returned (.bool true) ∧ Only [] w w' := by
  rcases h with h | h
  all_goals
    rcases hs with rfl | rfl
    all_goals
      go_enter Try.func3, Try.ntmps3
      go_wp2_with (first
        | (go_at_call 13; refine (known_any _).mono ?_; rintro e w1 ⟨rfl, ho1⟩)
        | (go_at_call 14; refine (new_range _ _ _ (by first | exact Or.inl rfl | exact Or.inr rfl) (by omega) _).mono ?_; rintro e w2 ⟨rfl, rfl⟩))
      go_ret
      exact ⟨rfl, ho1⟩

set_option maxHeartbeats 1000000 in
theorem begins_height (side columns height : Int) (w : World) (hs : side = 1 ∨ side = -1) (h1 : 1 ≤ columns) (h2 : columns ≤ 65536) (h3 : okB height = false) :
    Calls Try.prog 3 #[.int .i64 side, .int .i64 columns, .int .i64 height] w fun e w' => e = .returned (.bool true) ∧ Only [] w w' := by
  by_cases hbig : 300 < columns
  all_goals
    rcases hs with rfl | rfl
    all_goals
      go_enter Try.func3, Try.ntmps3
      go_wp2_with (first
        | (go_at_call 13; refine (known_any _).mono ?_; rintro e w1 ⟨rfl, ho1⟩)
        | (go_at_call 15; refine (mok_any _ _).mono ?_; rintro e w' ⟨rfl, rfl⟩)
        | (go_at_call 14; refine (new_range _ _ _ (by first | exact Or.inl rfl | exact Or.inr rfl) (.inr (.inr h3)) _).mono ?_; rintro e w2 ⟨rfl, rfl⟩))
      go_ret
      exact ⟨rfl, ho1⟩

theorem begins_any (side columns height : Int) (w : World) :
    Calls Try.prog 3 #[.int .i64 side, .int .i64 columns, .int .i64 height] w fun e w' => e = .returned (.bool true) ∧ Only [] w w' := by
  by_cases hs : side = 1 ∨ side = -1
  · by_cases hr : columns < 1 ∨ 65536 < columns
    · exact begins_range side columns height w hs hr
    · cases h3 : okB height
      · exact begins_height side columns height w hs (by omega) (by omega) h3
      · exact begins_ok side columns height w hs (by omega) (by omega) h3
  · exact begins_kind side columns height w (fun h => hs (.inl h)) (fun h => hs (.inr h))
end Go.Proofs.Ytblcgfmgfepajaa
