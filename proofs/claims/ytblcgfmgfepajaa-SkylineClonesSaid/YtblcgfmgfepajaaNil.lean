/- DERIVED. Contracts of a nil skyline. -/
import Derived.Test.YtblcgfmgfepajaaSkyC
namespace Go.Proofs.Ytblcgfmgfepajaa
open Go.RowKit

set_option maxHeartbeats 400000 in
theorem columns_nil (a b : Int) (w : World) : Calls Try.prog 38 #[.pointer none, .int .i64 a, .int .i64 b] w fun e w' => e = .returned (.int .i64 1) ∧ Only [] w w' := by
  go_enter Try.func38, Try.ntmps38
  go_wp2
  go_ret
  exact ⟨rfl, Only.refl [] w⟩

set_option maxHeartbeats 400000 in
theorem Most_nil (a b : Int) (w : World) : Calls Try.prog 16 #[.pointer none, .int .i64 a, .int .i64 b] w fun e w' => e = .returned (.tuple #[.int .i64 0, .int .i64 1]) ∧ Only [] w w' := by
  go_enter Try.func16, Try.ntmps16
  go_wp2_with (first
    | (go_at_call 38; refine (columns_nil _ _ _).mono ?_; rintro e w' ⟨rfl, ho⟩))
  go_ret2
  exact ⟨rfl, ho⟩

set_option maxHeartbeats 400000 in
theorem At_nil (a : Int) (w : World) : Calls Try.prog 17 #[.pointer none, .int .i64 a] w fun e w' => e = .returned (.tuple #[.int .i64 0, .int .i64 1]) ∧ Only [] w w' := by
  go_enter Try.func17, Try.ntmps17
  go_wp2_with (first
    | (go_at_call 16; refine (Most_nil _ _ _).mono ?_; rintro e w' ⟨rfl, ho⟩))
  go_ret2
  exact ⟨rfl, ho⟩

set_option maxHeartbeats 400000 in
theorem Raise_nil (a b c : Int) (w : World) : Calls Try.prog 21 #[.pointer none, .int .i64 a, .int .i64 b, .int .i64 c] w fun e w' => e = .returned (.int .i64 1) ∧ Only [] w w' := by
  go_enter Try.func21, Try.ntmps21
  go_wp2_with (first
    | (go_at_call 38; refine (columns_nil _ _ _).mono ?_; rintro e w' ⟨rfl, ho⟩))
  go_ret
  exact ⟨rfl, ho⟩

set_option maxHeartbeats 400000 in
theorem Place_nil (a b c d f : Int) (w : World) : Calls Try.prog 22 #[.pointer none, .int .i64 a, .int .i64 b, .int .i64 c, .int .i64 d, .int .i64 f] w fun e w' => e = .returned (.tuple #[.int .i64 0, .int .i64 1]) ∧ Only [] w w' := by
  go_enter Try.func22, Try.ntmps22
  go_wp2_with (first
    | (go_at_call 16; refine (Most_nil _ _ _).mono ?_; rintro e w' ⟨rfl, ho⟩))
  go_ret2
  exact ⟨rfl, ho⟩

set_option maxHeartbeats 400000 in
theorem Side_nil (w : World) : Calls Try.prog 18 #[.pointer none] w fun e w' => e = .returned (.int .i64 0) ∧ Only [] w w' := by
  go_enter Try.func18, Try.ntmps18
  go_wp2
  go_ret
  exact ⟨rfl, Only.refl [] w⟩

set_option maxHeartbeats 400000 in
theorem Columns_nil (w : World) : Calls Try.prog 19 #[.pointer none] w fun e w' => e = .returned (.int .i64 0) ∧ Only [] w w' := by
  go_enter Try.func19, Try.ntmps19
  go_wp2
  go_ret
  exact ⟨rfl, Only.refl [] w⟩

set_option maxHeartbeats 400000 in
theorem Steps_nil (w : World) : Calls Try.prog 29 #[.pointer none] w fun e w' => e = .returned (.slice none 0 0) ∧ Only [] w w' := by
  go_enter Try.func29, Try.ntmps29
  go_wp2
  go_ret
  exact ⟨rfl, Only.refl [] w⟩

set_option maxHeartbeats 400000 in
theorem CloneN_nil (w : World) : Calls Try.prog 32 #[.pointer none] w fun e w' => e = .returned (.pointer none) ∧ Only [] w w' := by
  go_enter Try.func32, Try.ntmps32
  go_wp2
  go_ret
  exact ⟨rfl, Only.refl [] w⟩

set_option maxHeartbeats 400000 in
theorem Distance_nil (q : Option Addr) (a : Int) (w : World) : Calls Try.prog 30 #[.pointer none, .pointer q, .int .i64 a] w fun e w' => e = .returned (.tuple #[.int .i64 0, .int .i64 1]) ∧ Only [] w w' := by
  go_enter Try.func30, Try.ntmps30
  go_wp2
  go_ret2
  exact ⟨rfl, Only.refl [] w⟩

set_option maxHeartbeats 400000 in
theorem Merge_nil (s : Nat) (a : Int) (w : World) : Calls Try.prog 33 #[.pointer (some ⟨s, 0, none⟩), .pointer none, .int .i64 a] w fun e w' => e = .returned (.int .i64 1) ∧ Only [] w w' := by
  go_enter Try.func33, Try.ntmps33
  go_wp2
  go_ret
  exact ⟨rfl, Only.refl [] w⟩

set_option maxHeartbeats 400000 in
theorem Equal_nil (w : World) : Calls Try.prog 35 #[.pointer none, .pointer none] w fun e w' => e = .returned (.bool true) ∧ Only [] w w' := by
  go_enter Try.func35, Try.ntmps35
  go_wp2
  go_ret
  exact ⟨rfl, Only.refl [] w⟩

set_option maxHeartbeats 400000 in
theorem EqualL_nil (s : Nat) (w : World) : Calls Try.prog 35 #[.pointer none, .pointer (some ⟨s, 0, none⟩)] w fun e w' => e = .returned (.bool false) ∧ Only [] w w' := by
  have hp : (binOp .eql 23 (.pointer none) (.pointer (some ⟨s, 0, none⟩))).run Try.prog w = .ok (.bool false) w := by kernel_rfl
  go_enter Try.func35, Try.ntmps35
  go_wp2
  go_ret
  exact ⟨rfl, Only.refl [] w⟩

set_option maxHeartbeats 400000 in
theorem EqualR_nil (s : Nat) (w : World) : Calls Try.prog 35 #[.pointer (some ⟨s, 0, none⟩), .pointer none] w fun e w' => e = .returned (.bool false) ∧ Only [] w w' := by
  go_enter Try.func35, Try.ntmps35
  go_wp2
  go_ret
  exact ⟨rfl, Only.refl [] w⟩

set_option maxHeartbeats 400000 in
theorem Touches_nil (a b l bb r t : Int) (w : World) : Calls Try.prog 24 #[.pointer none, .int .i64 a, .int .i64 b, .agg #[.int .i64 l, .int .i64 bb, .int .i64 r, .int .i64 t]] w fun e w' => e = .returned (.bool false) ∧ Only [] w w' := by
  go_enter Try.func24, Try.ntmps24
  go_wp2_with (first | (go_at_call 16; refine (Most_nil _ _ _).mono ?_; rintro e w' ⟨rfl, ho⟩))
  go_ret
  exact ⟨rfl, ((Only.refl [] w).alloc _).trans ho⟩
end Go.Proofs.Ytblcgfmgfepajaa
