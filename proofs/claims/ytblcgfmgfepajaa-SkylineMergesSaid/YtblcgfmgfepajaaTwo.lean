/- DERIVED. Two lists of operations and a number, read; a size as the statements ask it; the length behind operations. -/
import Derived.Test.YtblcgfmgfepajaaPlays
import Derived.Test.YtblcgfmgfepajaaOps
namespace Go.Proofs.Ytblcgfmgfepajaa
open Go.RowKit Go.ChangeShapes Go.WideShapes Go.ChangeAt

theorem flat_twoS : flat Try.prog 8 63 = some [.ref 36, .ref 36, .int .i64] := by kernel_rfl

section
variable {H : Type} {enc : TypeId × Value → H} {w : World} {base : Nat} {spare : Nat → Bool} {held : Bool}
theorem arg_twoS {r : Reach} {b0 : Nat} {v : Value} {d : DataW H} {p : List MemPlace} (hv : Value.okWide Try.prog w r b0 63 v)
    (h : DataW.Trod enc Try.prog w base spare held 63 v d p) :
    ∃ (A B : Option Addr) (ca cb : Nat) (opa opb : List OpR) (x : Int), v = .agg #[.slice A opa.length ca, .slice B opb.length cb, .int .i64 x] ∧ OpsAt w A opa ∧ OpsAt w B opb ∧ -9223372036854775808 ≤ x ∧ x ≤ 9223372036854775807 := by
  obtain ⟨vs, rfl, hF⟩ := arg_struct Try.underlying63 flat_twoS hv h
  obtain ⟨_, _, rfl, ⟨n1, y1, t1⟩, g1⟩ := hF.cons
  obtain ⟨_, _, rfl, ⟨n2, y2, t2⟩, g2⟩ := g1.cons
  obtain ⟨_, _, rfl, ⟨x, rfl, wx⟩, g3⟩ := g2.cons
  obtain rfl := g3.nil
  obtain ⟨A, ca, opa, rfl, ha⟩ := ops_of t1
  obtain ⟨B, cb, opb, rfl, hb⟩ := ops_of t2
  have bx := bounds_i64 wx
  exact ⟨A, B, ca, cb, opa, opb, x, rfl, ha, hb, bx.1, bx.2⟩
end

theorem doH_len (side : Int) (h : List Int) (kd a b c d e bb t : Int) : (doH side h kd a b c d e bb t).length = h.length := by
  unfold doH
  split
  · exact raiseH_len ..
  · split
    · exact placeH_len ..
    · exact raiseH_len ..
theorem playTo_len (side : Int) (h : List Int) (ops : List OpR) (k : Nat) : (playTo side h ops k).length = h.length := by
  unfold playTo
  generalize ops.take k = l
  induction l generalizing h with
  | nil => rfl
  | cons o l ih => rw [List.foldl_cons, ih, OpR.do_, doH_len]
theorem newH_len (side : Int) (n : Nat) (v : Int) : (newH side n v).length = n := by rw [newH, List.length_replicate]

set_option maxHeartbeats 400000 in
theorem msz_any (x : Int) (w : World) :
    Calls Try.prog 31 #[.int .i64 x] w fun e w' => e = .returned (.bool (sizeB x)) ∧ w = w' := by
  by_cases h1 : 0 ≤ x
  all_goals
    go_enter Try.func31, Try.ntmps31
    go_wp2
    go_ret
    exact ⟨ret_bool (by unfold sizeB; simp; try omega), rfl⟩
end Go.Proofs.Ytblcgfmgfepajaa
