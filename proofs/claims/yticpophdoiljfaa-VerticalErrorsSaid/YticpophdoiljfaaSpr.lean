/- DERIVED. Vertical: weights, Spread. -/
import Derived.Test.YticpophdoiljfaaEqs
namespace Go.Proofs.Yticpophdoiljfaa
open Go.RowKit
attribute [local go_sem ↓] Go.wp_at_zero Go.wp_at_succ

/-- The weight of the space above staff q + 1, and the sum of the first k. -/
def wt (ps : List Int) (q : Nat) : Int := if ps.getD (q + 1) 0 = ps.getD q 0 then 1 else 2
def wtTo (ps : List Int) : Nat → Int
  | 0 => 0
  | k + 1 => wtTo ps k + wt ps k
theorem wt_rng (ps : List Int) (q : Nat) : 1 ≤ wt ps q ∧ wt ps q ≤ 2 := by unfold wt; split <;> omega
theorem wtTo_rng (ps : List Int) : ∀ k : Nat, (k : Int) ≤ wtTo ps k ∧ wtTo ps k ≤ 2 * (k : Int)
  | 0 => by simp [wtTo]
  | k + 1 => by
    have := wtTo_rng ps k
    have := wt_rng ps k
    rw [wtTo]
    omega

set_option maxRecDepth 20000 in
set_option maxHeartbeats 1000000 in
theorem weight_any {w : World} {A : Option Addr} (c : Nat) (ps : List Int) (hI : IntsAt w A ps) (hl : ps.length ≤ 65536) (q : Nat) (hq : q + 1 < ps.length) :
    Calls Try.prog 52 #[.slice A ps.length c, .int .i64 ((q : Int) + 1)] w fun e w' => e = .returned (.int .i64 (wt ps q)) ∧ ∃ n, w' = w.drewN n := by
  obtain ⟨b, off, rfl, _, p1⟩ := hI (q + 1) hq
  obtain ⟨b', off', hA, _, p0⟩ := hI q (by omega)
  simp only [Option.some.injEq, Addr.mk.injEq, and_true] at hA
  obtain ⟨rfl, rfl⟩ := hA
  have j0 : (0 : Int) ≤ (q : Int) + 1 := by omega
  have j1 : (q : Int) + 1 < (ps.length : Int) := by omega
  have j2 : ((q : Int) + 1 - 1) = (q : Int) := by omega
  have j3 : IntKind.i64.wrap ((q : Int)) = (q : Int) := IntWalk.i64_in _ (by omega)
  have j4 : (0 : Int) ≤ (q : Int) := by omega
  have j5 : (q : Int) < (ps.length : Int) := by omega
  have j6 : ((q : Int) + 1).toNat = q + 1 := by omega
  have W : Hid (wt ps q = if ps[q + 1] = ps[q] then 1 else 2) := Lib.hid (by rw [wt, getD_get hq, getD_get (show q < ps.length by omega)])
  clear hI
  generalize ps[q] = x at *
  generalize ps[q + 1] = y at *
  by_cases e : y = x
  · have W2 := Lib.hid (W.out.trans (if_pos e))
    have b1 : (y == x) = true := by simpa using e
    clear e W
    go_enter Try.func52, Try.ntmps52
    go_wp2
    go_quiet (fail)
    go_wp2
    go_ret
    exact ⟨ret_int W2.out.symm, _, rfl⟩
  · have W2 := Lib.hid (W.out.trans (if_neg e))
    have b1 : (y == x) = false := by simpa using e
    clear e W
    go_enter Try.func52, Try.ntmps52
    go_wp2
    go_quiet (fail)
    go_wp2
    go_ret
    exact ⟨ret_int W2.out.symm, _, rfl⟩

set_option maxRecDepth 20000 in
set_option maxHeartbeats 1000000 in
theorem weightfn_any {w : World} {A : Option Addr} (c : Nat) (ps : List Int) (hI : IntsAt w A ps) (hl : ps.length ≤ 65536) (q : Nat) (hq : q + 1 < ps.length) (B : Nat) (hB : w.cell? ⟨B, 0, none⟩ = some (.slice A ps.length c)) :
    Calls Try.prog 49 #[.int .i64 ((q : Int) + 1), .pointer (some ⟨B, 0, none⟩)] w fun e w' => e = .returned (.int .i64 (wt ps q)) ∧ ∃ n, w' = w.drewN n := by
  obtain ⟨b, off, rfl, _, p1⟩ := hI (q + 1) hq
  obtain ⟨b', off', hA, _, p0⟩ := hI q (by omega)
  simp only [Option.some.injEq, Addr.mk.injEq, and_true] at hA
  obtain ⟨rfl, rfl⟩ := hA
  have j0 : (0 : Int) ≤ (q : Int) + 1 := by omega
  have j1 : (q : Int) + 1 < (ps.length : Int) := by omega
  have j2 : ((q : Int) + 1 - 1) = (q : Int) := by omega
  have j3 : IntKind.i64.wrap ((q : Int)) = (q : Int) := IntWalk.i64_in _ (by omega)
  have j4 : (0 : Int) ≤ (q : Int) := by omega
  have j5 : (q : Int) < (ps.length : Int) := by omega
  have j6 : ((q : Int) + 1).toNat = q + 1 := by omega
  have W : Hid (wt ps q = if ps[q + 1] = ps[q] then 1 else 2) := Lib.hid (by rw [wt, getD_get hq, getD_get (show q < ps.length by omega)])
  clear hI
  generalize ps[q] = x at *
  generalize ps[q + 1] = y at *
  by_cases e : y = x
  · have W2 := Lib.hid (W.out.trans (if_pos e))
    have b1 : (y == x) = true := by simpa using e
    clear e W
    go_enter Try.func49, Try.ntmps49
    go_wp2
    go_quiet (fail)
    go_wp2
    go_ret
    exact ⟨ret_int W2.out.symm, _, rfl⟩
  · have W2 := Lib.hid (W.out.trans (if_neg e))
    have b1 : (y == x) = false := by simpa using e
    clear e W
    go_enter Try.func49, Try.ntmps49
    go_wp2
    go_quiet (fail)
    go_wp2
    go_ret
    exact ⟨ret_int W2.out.symm, _, rfl⟩

/-- A middle line behind Spread. -/
def spreadAt (ms ps : List Int) (extra : Int) (i : Nat) : Int := ms.getD i 0 - extra * wtTo ps i / wtTo ps (ps.length - 1)
/-- What Spread gives where nothing is amiss. -/
def Spreaded (w : World) (ms ps : List Int) (t b extra : Int) (e : Ending) (w' : World) : Prop :=
  ∃ g cap, e = .returned (.tuple #[sysV (some ⟨g, 0, none⟩) ms.length cap t (b - extra), .int .i64 0]) ∧ w.heap.size ≤ g ∧ g < w'.heap.size ∧
    (∀ i, i < ms.length → w'.cell? ⟨g, i, none⟩ = some (.int .i64 (spreadAt ms ps extra i))) ∧ Only [] w w'
end Go.Proofs.Yticpophdoiljfaa
