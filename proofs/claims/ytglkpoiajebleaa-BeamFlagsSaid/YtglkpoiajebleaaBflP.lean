/- DERIVED. BeamFlags: Flags counts the segments at each note, or returns the first error.
   No conditions of ours: every input that the row speaks of. -/
import Derived.Test.YtglkpoiajebleaaBfl
import Derived.Test.YtglkpoiajebleaaArg
import Derived.Test.YtglkpoiajebleaaRows
import Derived.Test.YtglkpoiajebleaaFlat
import Derived.ProofKit
import Derived.OpenShut
import Derived.ShutString
import Derived.ChangeOld
import Derived.Below
namespace Go.Proofs.Ytglkpoiajebleaa.beamFlags
open Go.ChangeShapes Go.WideShapes Go.ChangeAt Go.RowKit
open Go.ChangeMaps (open_string shut_string)
set_option linter.unusedVariables false

theorem own : ownKnob Try.prog.godebug = none := by kernel_rfl
theorem laidOut : laidOutB Try.prog = true := by kernel_rfl
theorem flags_any {w : World} {A : Option Addr} {l : List Sg} (c : Nat) (h : SegsAt w A l) (f k : Int) :
    Calls Try.prog 4 #[grpV f k, .slice A l.length c] w fun e w' => e = .returned (.bool true) ∧ Only [] w w' := by
  by_cases h1 : 20 < l.length
  · exact flags_long A _ c h1 f k
  by_cases h2 : f < 0 ∨ k ≤ f ∨ 128 ≤ k
  · exact flags_badg A _ c (by omega) f k h2
  by_cases h3 : ∃ r, ∃ hr : r < l.length, ¬ l[r].Ok f k
  · exact flags_bads c h (by omega) f k (by omega) (by omega) (by omega) h3
  exact flags_good c h (by omega) f k (by omega) (by omega) (by omega) (fun r hr => Classical.byContradiction fun hn => h3 ⟨r, hr, hn⟩)

set_option maxRecDepth 100000 in
set_option maxHeartbeats 1000000 in
theorem lifted (os : Os) (started : os.Started) (H : Type) (enc : TypeId × Value → H) :
    ReturnsInHanded {} Try.checked os 4 .any (Rows.beamFlagsSpec.pre6 enc Try.prog Try.f4 Rows.beamFlagsRow.domain false) (Rows.beamFlagsSpec.post enc Try.prog Try.f4 false true false false) := by
  refine returnsInHanded_of_change (C := Try.checked) own started (by kernel_rfl) Try.func4
    (ChangeSpec.witness6 (enc := enc) (C := Try.checked) false ⟨#[], #[.agg #[.int .i64 0, .int .i64 0], .slice none 0 0], []⟩ 8 (by kernel_rfl) (by kernel_rfl) (by kernel_rfl) (by kernel_rfl)) ?_
  intro W base args ds gs before hval0 hW hcnd _
  have hval : ∀ (j : Nat) t v, Try.f4.params[j]? = some t → args[j]? = some v → Value.okWide Try.prog W .any base t v := hval0
  have hW' := hW
  obtain ⟨p, q, hA0, hV, rfl, hfz, hnd⟩ := hW
  have hA : DataW.TrodAll enc Try.prog W 0 (fun _ => true) true Try.f4.params.toList args.toList ds p := hA0
  rw [Try.params4] at hA hval
  obtain ⟨v0, vs0, d0, ds0, p0, q0, hargs, rfl, rfl, h0, r0⟩ := trodAll_cons hA
  obtain ⟨v1, vs1, d1, ds1, p1, q1, rfl, rfl, rfl, h1, r1⟩ := trodAll_cons r0
  obtain ⟨rfl, rfl, rfl⟩ := trodAll_nil r1
  obtain rfl : args = #[v0, v1] := by cases args; simp_all
  obtain ⟨rfl, rfl⟩ := trodVars_none hV
  have k0 := h0
  have lt0 : ∀ x ∈ p0, x.block < W.heap.size := by obtain ⟨m, hm⟩ := k0; exact DataW.trod_lt m _ _ _ hm
  have k1 := h1
  have lt1 : ∀ x ∈ p1, x.block < W.heap.size := by obtain ⟨m, hm⟩ := k1; exact DataW.trod_lt m _ _ _ hm
  obtain ⟨f, k, rfl⟩ := arg_group (hval 0 _ v0 rfl rfl) h0
  obtain ⟨A, c, l, rfl, hl, hc⟩ := arg_segs (hval 1 _ v1 rfl rfl) h1
  clear hA0 hval0
  refine (flags_any c hl f k).mono fun e W' ⟨he, ho⟩ => ?_
  subst he
  have bel := ho.below (Nat.le_refl _) (by simp)
  exact ⟨_, rfl, _, _, _, [], _, [], hW', trodAll_mk1 (shut_bool Try.underlying4 _), (trodAll_cons_mk (Below.trod laidOut (by kernel_rfl) (of_decide_eq_true (by kernel_rfl)) k0 bel lt0) (trodAll_cons_mk (Below.trod laidOut (by kernel_rfl) (of_decide_eq_true (by kernel_rfl)) k1 bel lt1) trodAll_mk0)), rfl, bel.frame _, fun h => by cases h⟩

theorem over : Rows.beamFlagsRow.holds Try.pinned (OpenSpec.ofChange Rows.beamFlagsSpec) :=
  OpenClaim.holds_of_wide 4 Try.f4 rfl rfl rfl rfl rfl rfl rfl ⟨rfl, rfl, rfl, rfl, rfl⟩ rfl rfl rfl rfl rfl (by kernel_rfl) Try.func4 (by kernel_rfl)
    (of_decide_eq_true (by kernel_rfl)) (by unfold Func.isWrapper; first | (rw [if_pos (by decide +kernel)]; kernel_rfl) | (rw [if_neg (by decide +kernel)]; exact ⟨rfl, rfl⟩))
    (fun os started H enc _ => lifted os started H enc)

theorem proved : Rows.BeamFlagsSaid := over
end Go.Proofs.Ytglkpoiajebleaa.beamFlags
