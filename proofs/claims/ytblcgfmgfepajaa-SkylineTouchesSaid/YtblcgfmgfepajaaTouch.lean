/- DERIVED. Contracts of the statements' model, part D: touches. -/
import Derived.Test.YtblcgfmgfepajaaModC
namespace Go.Proofs.Ytblcgfmgfepajaa
open Go.RowKit

theorem mostTo_gt (h : List Int) (a : Nat) (x : Int) : ∀ (k : Nat), a ≤ k → k < h.length → (x < mostTo h a (k + 1) ↔ ∃ j, a ≤ j ∧ j ≤ k ∧ ∃ hj : j < h.length, x < h[j])
  | k, hak, hk => by
    rw [mostTo_succ h a k hak hk]
    rcases Nat.eq_or_lt_of_le hak with e | hlt
    · subst e
      rw [mostTo_start h a hk]
      constructor
      · intro hx
        exact ⟨a, Nat.le_refl _, Nat.le_refl _, hk, by split at hx <;> exact hx⟩
      · rintro ⟨j, h1, h2, h3, h4⟩
        obtain rfl : j = a := by omega
        split <;> exact h4
    · obtain ⟨k, rfl⟩ : ∃ m, k = m + 1 := ⟨k - 1, by omega⟩
      have ih := mostTo_gt h a x k (by omega) (by omega)
      constructor
      · intro hx
        split at hx
        · exact ⟨k + 1, hak, Nat.le_refl _, hk, hx⟩
        · obtain ⟨j, h1, h2, h3, h4⟩ := ih.1 hx
          exact ⟨j, h1, by omega, h3, h4⟩
      · rintro ⟨j, h1, h2, h3, h4⟩
        by_cases e : j = k + 1
        · subst e
          split
          · exact h4
          · omega
        · have := ih.2 ⟨j, h1, by omega, h3, h4⟩
          split <;> omega

theorem mostOut_gt (h : List Int) (a b : Nat) (hab : a ≤ b) (hb : b < h.length) (x : Int) : x < mostOut h a b ↔ ∃ j, a ≤ j ∧ j ≤ b ∧ ∃ hj : j < h.length, x < h[j] := by
  rw [← mostTo_all h a b hab hb]
  exact mostTo_gt h a x b hab hb

set_option maxHeartbeats 2000000 in
theorem mtouches_up {w : World} {m g cap : Nat} {sp : List Value} {h : List Int} (hs : Mod w m g cap sp 1 h) (a b : Nat) (hab : a ≤ b) (hbl : b < h.length) (l bb r t : Int) (hbt : bb < t) :
    Calls Try.prog 25 #[.pointer (some ⟨m, 0, none⟩), .int .i64 a, .int .i64 b, .agg #[.int .i64 l, .int .i64 bb, .int .i64 r, .int .i64 t]] w
      fun e w' => e = .returned (.bool (decide (bb < mostOut h a b))) ∧ Only [] w w' := by
  have hlt := hs.head.lt
  have hfew := hs.few
  have hcb := colB_true (show colErr h.length a b = 0 by unfold colErr; split <;> omega)
  have hs' := hs.alloc (.cells #[.int .i64 l, .int .i64 bb, .int .i64 r, .int .i64 t] 41)
  have ho := (Only.refl [] w).alloc (.cells #[.int .i64 l, .int .i64 bb, .int .i64 r, .int .i64 t] 41)
  have hbox := Blk.new w 41 [.int .i64 l, .int .i64 bb, .int .i64 r, .int .i64 t]
  go_enter Try.func25, Try.ntmps25
  go_wp2_with (go_at_call 27; refine (mcolumns_any hs' _ _).mono ?_; rintro e w' ⟨rfl, rfl⟩)
  generalize w.alloc (.cells #[.int .i64 l, .int .i64 bb, .int .i64 r, .int .i64 t] 41) = W at hs' ho hbox ⊢
  generalize w.heap.size = B at hbox hlt ⊢
  have x1 := hbox.cell 1
  have x3 := hbox.cell 3
  simp at x1 x3
  have hc0 := hs'.side0
  have hc1 := hs'.h0
  go_loopw [9] (fun i wr => ∃ k nq : Nat, a ≤ k ∧ k ≤ b + 1 ∧ i = .int .i64 k ∧ wr = W.drewN nq ∧ ∀ j, a ≤ j → j < k → ∀ hj : j < h.length, h[j] ≤ bb) (fun i _ => b + 1 - (intOf i).toNat)
  case atStart => exact ⟨a, 0, by omega, by omega, rfl, rfl, fun j h1 h2 => absurd h2 (by omega)⟩
  case round =>
    obtain ⟨k, nq, hk1, hk2, rfl, rfl, hno⟩ := hrel
    have HNO := Lib.hid hno
    clear hno
    by_cases hlt2 : k ≤ b
    · have hck := hs'.at_ (show k < h.length by omega)
      rw [Int.one_mul] at hck
      have j0 : (0 : Int) ≤ (k : Int) := by omega
      have j1 : (k : Int) < (h.length : Int) := by omega
      by_cases hhit : bb < h[k]
      · have HH := Lib.hid hhit
        have d1 : decide (bb < h[k]) = true := by simpa using hhit
        go_wp2
        go_quiet (fail)
        go_wp2
        go_ret
        refine ⟨ret_bool ?_, (ho.drewN _).drewN _⟩
        have := (mostOut_gt h a b hab hbl bb).2 ⟨k, hk1, hlt2, by omega, HH.out⟩
        simpa using this
      · have HH := Lib.hid (Int.not_lt.1 hhit)
        have d1 : decide (bb < h[k]) = false := by simpa using hhit
        go_wp2
        go_quiet (fail)
        go_wp2
        go_roundw
        case rel =>
          refine ⟨k + 1, _, by omega, by omega, by go_num, rfl, fun j h1 h2 h3 => ?_⟩
          by_cases e : j = k
          · subst e; exact HH.out
          · exact HNO.out j h1 (by omega) h3
        case measure => simp [intOf]; omega
    · go_wp2
      go_ret
      refine ⟨ret_bool ?_, ho.drewN _⟩
      have := mt (mostOut_gt h a b hab hbl bb).1 (by
        rintro ⟨j, h1, h2, h3, h4⟩
        exact absurd h4 (Int.not_lt.2 (HNO.out j h1 (by omega) h3)))
      simpa using this

set_option maxHeartbeats 2000000 in
theorem mtouches_dn {w : World} {m g cap : Nat} {sp : List Value} {h : List Int} (hs : Mod w m g cap sp (-1) h) (a b : Nat) (hab : a ≤ b) (hbl : b < h.length) (l bb r t : Int) (hbt : bb < t) :
    Calls Try.prog 25 #[.pointer (some ⟨m, 0, none⟩), .int .i64 a, .int .i64 b, .agg #[.int .i64 l, .int .i64 bb, .int .i64 r, .int .i64 t]] w
      fun e w' => e = .returned (.bool (decide (-mostOut h a b < t))) ∧ Only [] w w' := by
  have hlt := hs.head.lt
  have hfew := hs.few
  have hcb := colB_true (show colErr h.length a b = 0 by unfold colErr; split <;> omega)
  have hs' := hs.alloc (.cells #[.int .i64 l, .int .i64 bb, .int .i64 r, .int .i64 t] 41)
  have ho := (Only.refl [] w).alloc (.cells #[.int .i64 l, .int .i64 bb, .int .i64 r, .int .i64 t] 41)
  have hbox := Blk.new w 41 [.int .i64 l, .int .i64 bb, .int .i64 r, .int .i64 t]
  go_enter Try.func25, Try.ntmps25
  go_wp2_with (go_at_call 27; refine (mcolumns_any hs' _ _).mono ?_; rintro e w' ⟨rfl, rfl⟩)
  generalize w.alloc (.cells #[.int .i64 l, .int .i64 bb, .int .i64 r, .int .i64 t] 41) = W at hs' ho hbox ⊢
  generalize w.heap.size = B at hbox hlt ⊢
  have x1 := hbox.cell 1
  have x3 := hbox.cell 3
  simp at x1 x3
  have hc0 := hs'.side0
  have hc1 := hs'.h0
  go_loopw [9] (fun i wr => ∃ k nq : Nat, a ≤ k ∧ k ≤ b + 1 ∧ i = .int .i64 k ∧ wr = W.drewN nq ∧ ∀ j, a ≤ j → j < k → ∀ hj : j < h.length, h[j] ≤ -t) (fun i _ => b + 1 - (intOf i).toNat)
  case atStart => exact ⟨a, 0, by omega, by omega, rfl, rfl, fun j h1 h2 => absurd h2 (by omega)⟩
  case round =>
    obtain ⟨k, nq, hk1, hk2, rfl, rfl, hno⟩ := hrel
    have HNO := Lib.hid hno
    clear hno
    by_cases hlt2 : k ≤ b
    · have hck := hs'.at_ (show k < h.length by omega)
      rw [Int.neg_mul, Int.one_mul] at hck
      have j0 : (0 : Int) ≤ (k : Int) := by omega
      have j1 : (k : Int) < (h.length : Int) := by omega
      by_cases hhit : -t < h[k]
      · have HH := Lib.hid hhit
        have d1 : decide (-h[k] < t) = true := by simp; omega
        go_wp2
        go_quiet (fail)
        go_wp2
        go_ret
        refine ⟨ret_bool ?_, (ho.drewN _).drewN _⟩
        have := (mostOut_gt h a b hab hbl (-t)).2 ⟨k, hk1, hlt2, by omega, HH.out⟩
        simp; omega
      · have HH := Lib.hid (Int.not_lt.1 hhit)
        have d1 : decide (-h[k] < t) = false := by simp; omega
        go_wp2
        go_quiet (fail)
        go_wp2
        go_roundw
        case rel =>
          refine ⟨k + 1, _, by omega, by omega, by go_num, rfl, fun j h1 h2 h3 => ?_⟩
          by_cases e : j = k
          · subst e; exact HH.out
          · exact HNO.out j h1 (by omega) h3
        case measure => simp [intOf]; omega
    · go_wp2
      go_ret
      refine ⟨ret_bool ?_, ho.drewN _⟩
      have := mt (mostOut_gt h a b hab hbl (-t)).1 (by
        rintro ⟨j, h1, h2, h3, h4⟩
        exact absurd h4 (Int.not_lt.2 (HNO.out j h1 (by omega) h3)))
      simp; omega

set_option maxHeartbeats 1000000 in
theorem mtouches_no {w : World} {m g cap : Nat} {sp : List Value} {side : Int} {h : List Int} (hs : Mod w m g cap sp side h) (first last l b r t : Int) (hn : ¬ (colErr h.length first last = 0 ∧ b < t)) :
    Calls Try.prog 25 #[.pointer (some ⟨m, 0, none⟩), .int .i64 first, .int .i64 last, .agg #[.int .i64 l, .int .i64 b, .int .i64 r, .int .i64 t]] w
      fun e w' => e = .returned (.bool false) ∧ Only [] w w' := by
  have hlt := hs.head.lt
  rcases colErr_cases h.length first last with ⟨h0, -, -, -⟩ | h0
  · have hb := colB_true h0
    have hd : decide (t ≤ b) = true := by
      by_cases c : b < t
      · exact absurd ⟨h0, c⟩ hn
      · simp; omega
    clear hn h0
    go_enter Try.func25, Try.ntmps25
    go_wp2_with (go_at_call 27; refine (mcolumns_any (hs.alloc _) _ _).mono ?_; rintro e w' ⟨rfl, rfl⟩)
    go_ret
    exact ⟨rfl, (Only.refl [] w).alloc _⟩
  · have hb := colB_false h0
    clear hn h0
    go_enter Try.func25, Try.ntmps25
    go_wp2_with (go_at_call 27; refine (mcolumns_any (hs.alloc _) _ _).mono ?_; rintro e w' ⟨rfl, rfl⟩)
    go_ret
    exact ⟨rfl, (Only.refl [] w).alloc _⟩

theorem mtouches_any {w : World} {m g cap : Nat} {sp : List Value} {side : Int} {h : List Int} (hs : Mod w m g cap sp side h) (first last l b r t : Int) :
    Calls Try.prog 25 #[.pointer (some ⟨m, 0, none⟩), .int .i64 first, .int .i64 last, .agg #[.int .i64 l, .int .i64 b, .int .i64 r, .int .i64 t]] w
      fun e w' => e = .returned (.bool (touchB side h first last b t)) ∧ Only [] w w' := by
  by_cases hn : colErr h.length first last = 0 ∧ b < t
  · obtain ⟨x, y, rfl, rfl, hxy, hy⟩ := col_nats hn.1
    rcases hs.sides with rfl | rfl
    · refine (mtouches_up hs x y hxy hy l b r t hn.2).mono ?_
      rintro e w' ⟨rfl, ho⟩
      exact ⟨ret_bool (by rw [touchB, if_pos hn, if_pos rfl, mostV, if_pos hn.1, Int.one_mul]), ho⟩
    · refine (mtouches_dn hs x y hxy hy l b r t hn.2).mono ?_
      rintro e w' ⟨rfl, ho⟩
      exact ⟨ret_bool (by rw [touchB, if_pos hn, if_neg (by decide), mostV, if_pos hn.1, Int.neg_mul, Int.one_mul]), ho⟩
  · refine (mtouches_no hs first last l b r t hn).mono ?_
    rintro e w' ⟨rfl, ho⟩
    exact ⟨ret_bool (by rw [touchB, if_neg hn]), ho⟩
end Go.Proofs.Ytblcgfmgfepajaa
