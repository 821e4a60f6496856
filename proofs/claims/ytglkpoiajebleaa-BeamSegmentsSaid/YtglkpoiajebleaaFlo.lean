/- DERIVED. Contracts of package beam: floor. -/
import Derived.Test.YtglkpoiajebleaaGck
namespace Go.Proofs.Ytglkpoiajebleaa
open Go.RowKit

set_option maxRecDepth 20000 in
set_option maxHeartbeats 4000000 in
theorem floor_any (a b : Int) (hb : 0 < b) (ha : -4611686018427387904 ≤ a ∧ a ≤ 4611686018427387904) (w : World) :
    Calls Try.prog 40 #[.int .i64 a, .int .i64 b] w fun e w' => e = .returned (.int .i64 (a / b)) ∧ Only [] w w' := by
  have b0 : ¬ b = 0 := by omega
  have b1 : ¬ b < 0 := by omega
  have hE := Int.mul_tdiv_add_tmod a b
  have hD := Int.mul_ediv_add_emod a b
  by_cases h0 : 0 ≤ a
  · have e1 : Int.tdiv a b = a / b := Int.tdiv_eq_ediv_of_nonneg h0
    have e2 : Int.tmod a b = a % b := Int.tmod_eq_emod_of_nonneg h0
    have r1 : 0 ≤ a / b := Int.ediv_nonneg h0 (by omega)
    have r2 : a / b ≤ a := Int.ediv_le_self _ h0
    have n0 : ¬ a < 0 := by omega
    obtain ⟨q, hq⟩ : ∃ q, a / b = q := ⟨_, rfl⟩
    obtain ⟨r, hr⟩ : ∃ r, a % b = r := ⟨_, rfl⟩
    rw [hq] at e1 r1 r2 ⊢
    rw [hr] at e2
    have k1 : IntKind.i64.wrap q = q := IntWalk.i64_in _ (by omega)
    clear hE hD
    by_cases hz : r = 0
    · subst hz
      go_enter Try.func40, Try.ntmps40
      go_wp2
      go_ret
      exact ⟨rfl, Only.refl _ _⟩
    · have hz' : (r != 0) = true := by simpa using hz
      go_enter Try.func40, Try.ntmps40
      go_wp2
      go_ret
      exact ⟨rfl, Only.refl _ _⟩
  · have n0 : a < 0 := by omega
    obtain ⟨t, ht⟩ : ∃ t, Int.tdiv a b = t := ⟨_, rfl⟩
    obtain ⟨r, hr⟩ : ∃ r, Int.tmod a b = r := ⟨_, rfl⟩
    have hneg : Int.tdiv a b = -((-a) / b) := by
      rw [← Int.tdiv_eq_ediv_of_nonneg (by omega : 0 ≤ -a), Int.neg_tdiv, Int.neg_neg]
    have s1 : 0 ≤ (-a) / b := Int.ediv_nonneg (by omega) (by omega)
    have s2 : (-a) / b ≤ -a := Int.ediv_le_self _ (by omega)
    have t1 : -4611686018427387904 ≤ t ∧ t ≤ 0 := by rw [← ht, hneg]; omega
    have k1 : IntKind.i64.wrap t = t := IntWalk.i64_in _ (by omega)
    have k2 : IntKind.i64.wrap (t - 1) = t - 1 := IntWalk.i64_in _ (by omega)
    have m1 : -b < r ∧ r ≤ 0 := by
      have h1 : Int.tmod a b = -((-a) % b) := by rw [← Int.tmod_eq_emod_of_nonneg (by omega : 0 ≤ -a), Int.neg_tmod, Int.neg_neg]
      have h2 := Int.emod_nonneg (-a) b0
      have h3 := Int.emod_lt_of_pos (-a) hb
      rw [← hr, h1]
      omega
    rw [ht, hr] at hE
    by_cases hz : r = 0
    · have HF := Lib.hid (show a / b = t by rw [← hE, hz, Int.add_zero, Int.mul_ediv_cancel_left _ b0])
      subst hz
      clear hE hD hneg s1 s2 m1 t1
      go_enter Try.func40, Try.ntmps40
      go_wp2
      go_ret
      exact ⟨ret_int HF.out.symm, Only.refl _ _⟩
    · have hz' : (r != 0) = true := by simpa using hz
      have HF := Lib.hid (show a / b = t - 1 by
        rw [show a = (r + b) + b * (t - 1) by rw [← hE, Int.mul_sub, Int.mul_one]; omega, Int.add_mul_ediv_left _ _ b0, Int.ediv_eq_zero_of_lt (by omega) (by omega), Int.zero_add])
      clear hE hD hneg s1 s2 m1 t1
      go_enter Try.func40, Try.ntmps40
      go_wp2
      go_ret
      exact ⟨ret_int HF.out.symm, Only.refl _ _⟩
end Go.Proofs.Ytglkpoiajebleaa
