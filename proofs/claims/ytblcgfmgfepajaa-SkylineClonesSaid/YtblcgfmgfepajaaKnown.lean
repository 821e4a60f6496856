/- DERIVED. The statements' known: true. -/
import Derived.Test.YtblcgfmgfepajaaSkyC
import Derived.Test.YtblcgfmgfepajaaSkyN
namespace Go.Proofs.Ytblcgfmgfepajaa
open Go.RowKit

set_option maxHeartbeats 1000000 in
theorem known_any (w : World) : Calls Try.prog 13 #[] w fun e w' => e = .returned (.bool true) ∧ Only [] w w' := by
  have k1 : placeV 1 (newH 1 4 128) 1 2 0 64 16 = 144 := by decide
  have k2 : placeE 1 (newH 1 4 128) 1 2 0 64 16 = 0 := by decide
  have k3 : placeH 1 (newH 1 4 128) 1 2 0 64 16 = [128, 208, 208, 128] := by decide
  have k4 : mostV 1 [128, 208, 208, 128] 0 0 = 128 := by decide
  have k5 : mostV 1 [128, 208, 208, 128] 2 2 = 208 := by decide
  have k6 : touchB 1 [128, 208, 208, 128] 2 3 200 240 = true := by decide
  have k7 : touchB 1 [128, 208, 208, 128] 2 3 208 240 = false := by decide
  have k8 : colErr 4 0 0 = 0 := by decide
  have k9 : colErr 4 2 2 = 0 := by decide
  go_enter Try.func13, Try.ntmps13
  go_wp2_with (first
    | (go_at_call 14; refine (new_ok 1 4 128 (.inl rfl) (by omega) (by omega) (by omega) _).mono ?_; rintro e w1 ⟨s, g, rfl, hs, hg, hsky, ho⟩)
    | (go_at_call 22; refine (Place_any hsky _ _ _ _ _).mono ?_; rintro e w2 ⟨rfl, hsky2, ho2⟩; rw [k3] at hsky2)
    | (go_at_call 17; refine (at_any (hsky2.drewN _) _).mono ?_; rintro e w3 ⟨rfl, n, rfl⟩)
    | (go_at_call 17; refine (at_any hsky2 _).mono ?_; rintro e w3 ⟨rfl, n, rfl⟩)
    | (go_at_call 24; refine (Touches_any hsky4 _ _ _ _ _ _).mono ?_; rintro e w5 ⟨rfl, ho5⟩)
    | (go_at_call 24; refine (Touches_any (hsky2.drewN _) _ _ _ _ _ _).mono ?_; rintro e w4 ⟨rfl, ho4⟩; have hsky4 := (hsky2.drewN _).only ho4 (by simp) (by simp)))
  go_ret
  refine ⟨rfl, ((ho.more (T := [g]) (by simp)).trans (ho2.trans (((Only.of_drewN w2 [g] _).trans (ho4.more (by simp))).trans (ho5.more (by simp))))).less fun i hi hl => ?_⟩
  simp at hi
  omega
end Go.Proofs.Ytblcgfmgfepajaa
