/- DERIVED. What groups gives of any metre; the statements' time signatures. -/
import Derived.Test.YtglkpoiajebleaaDel
import Derived.Test.YtglkpoiajebleaaAt
namespace Go.Proofs.Ytglkpoiajebleaa
open Go.RowKit

/-- How many units each beat of a metre has. -/
def Met.beatsL (m : Met) : List Int := if m.z then m.zL else posL m.gs
theorem grpC_of {m : Met} (h : m.chk = 0) : GrpC m m.beatsL ∧ m.beatsL.length ≤ 64 ∧ ∀ x ∈ m.beatsL, 0 ≤ x ∧ x ≤ 64 := by
  have hk := Met.ok_of h
  have h1 := hk.c1
  have h2 := hk.c2
  unfold Met.beatsL
  by_cases hz : m.z = true
  · rw [if_pos hz]
    refine ⟨fun w => (groups_z m hk hz w).mono fun e w' ⟨g, he, hg, hr, ho⟩ => ⟨g, _, he, hg, hr, ho⟩, ?_, ?_⟩
    · unfold Met.zL
      split
      · simp; omega
      · simp; omega
    · intro x hx
      unfold Met.zL at hx
      split at hx
      · have := (List.mem_replicate.1 hx).2; omega
      · have := (List.mem_replicate.1 hx).2; omega
  · rw [if_neg hz]
    have hz' : m.z = false := by simpa using hz
    obtain ⟨r, hr⟩ := Met.grpL_of h hz'
    refine ⟨groups_g m h hz', ?_, fun x hx => (grpL_pos m.gs 0 0 0 ⟨r, hr⟩ (Int.le_refl _)).2 x (posL_mem _ x hx)⟩
    have := posL_len m.gs
    have : m.gs.length = 6 := rfl
    omega

def sigM : Nat → Met
  | 0 => ⟨4, 4, 0, 0, 0, 0, 0, 0⟩
  | 1 => ⟨6, 8, 0, 0, 0, 0, 0, 0⟩
  | 2 => ⟨5, 8, 3, 2, 0, 0, 0, 0⟩
  | 3 => ⟨3, 4, 0, 0, 0, 0, 0, 0⟩
  | 4 => ⟨2, 2, 0, 0, 0, 0, 0, 0⟩
  | _ => ⟨7, 16, 2, 2, 3, 0, 0, 0⟩
theorem sigM_chk : ∀ k, (sigM k).chk = 0
  | 0 => by kernel_rfl
  | 1 => by kernel_rfl
  | 2 => by kernel_rfl
  | 3 => by kernel_rfl
  | 4 => by kernel_rfl
  | k + 5 => by show (sigM 5).chk = 0; kernel_rfl

set_option maxRecDepth 20000 in
set_option maxHeartbeats 4000000 in
theorem signature_any (n : Int) (h1 : 0 ≤ n ∧ n ≤ 255) (w : World) :
    Calls Try.prog 12 #[.int .u8 n] w fun e w' => e = .returned (metV (sigM (n % 6).toNat)) ∧ Only [] w w' := by
  obtain ⟨k, hk⟩ : ∃ k, n % 6 = k := ⟨_, rfl⟩
  rw [hk]
  have hk6 : 0 ≤ k ∧ k < 6 := by omega
  have hs : k = 0 ∨ k = 1 ∨ k = 2 ∨ k = 3 ∨ k = 4 ∨ k = 5 := by omega
  clear hk6
  rcases hs with rfl | rfl | rfl | rfl | rfl | rfl
  · go_enter Try.func12, Try.ntmps12
    go_wp2
    refine bodyPost_ret (v := metV (sigM 0)) (by simp [results, Try.results12, go_sem, sigM]) rfl ⟨rfl, ?_⟩
    exact ((Only.refl [] w).alloc _).alloc _
  · go_enter Try.func12, Try.ntmps12
    go_wp2
    refine bodyPost_ret (v := metV (sigM 1)) (by simp [results, Try.results12, go_sem, sigM]) rfl ⟨rfl, ?_⟩
    exact ((Only.refl [] w).alloc _).alloc _
  · go_enter Try.func12, Try.ntmps12
    go_wp2
    refine bodyPost_ret (v := metV (sigM 2)) (by simp [results, Try.results12, go_sem, sigM]) rfl ⟨rfl, ?_⟩
    exact ((Only.refl [] w).alloc _).alloc _
  · go_enter Try.func12, Try.ntmps12
    go_wp2
    refine bodyPost_ret (v := metV (sigM 3)) (by simp [results, Try.results12, go_sem, sigM]) rfl ⟨rfl, ?_⟩
    exact ((Only.refl [] w).alloc _).alloc _
  · go_enter Try.func12, Try.ntmps12
    go_wp2
    refine bodyPost_ret (v := metV (sigM 4)) (by simp [results, Try.results12, go_sem, sigM]) rfl ⟨rfl, ?_⟩
    exact ((Only.refl [] w).alloc _).alloc _
  · go_enter Try.func12, Try.ntmps12
    go_wp2
    refine bodyPost_ret (v := metV (sigM 5)) (by simp [results, Try.results12, go_sem, sigM]) rfl ⟨rfl, ?_⟩
    exact ((Only.refl [] w).alloc _).alloc _
end Go.Proofs.Ytglkpoiajebleaa
