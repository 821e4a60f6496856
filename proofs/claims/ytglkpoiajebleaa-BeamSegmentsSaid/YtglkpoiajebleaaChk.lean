/- DERIVED. Contracts of package metre: grouped, Check. -/
import Derived.Test.YtglkpoiajebleaaMet
namespace Go.Proofs.Ytglkpoiajebleaa
open Go.RowKit

/-- What the loop of grouped holds at the end: none if it has returned false. -/
def grpL : List Int → Int → Int → Int → Option (Int × Int)
  | [], _, s, n => some (s, n)
  | g :: r, i, s, n => if g < 0 ∨ 64 < g ∨ (0 < g ∧ i ≠ n) then none else if 0 < g then grpL r (i + 1) (s + g) (n + 1) else grpL r (i + 1) s n
def grpE (c : Int) : Option (Int × Int) → Bool
  | none => false
  | some (s, n) => s == c && decide (2 ≤ n)
def Met.grp (m : Met) : Bool := m.z || grpE m.c (grpL m.gs 0 0 0)

theorem ix0 (w : World) (a b c d e f : Int) : (Instr.index 34 (.agg #[.int .i64 a, .int .i64 b, .int .i64 c, .int .i64 d, .int .i64 e, .int .i64 f]) (.int .i64 0)).run Try.prog w = .ok (.int .i64 a) w := by kernel_rfl
theorem ix1 (w : World) (a b c d e f : Int) : (Instr.index 34 (.agg #[.int .i64 a, .int .i64 b, .int .i64 c, .int .i64 d, .int .i64 e, .int .i64 f]) (.int .i64 1)).run Try.prog w = .ok (.int .i64 b) w := by kernel_rfl
theorem ix2 (w : World) (a b c d e f : Int) : (Instr.index 34 (.agg #[.int .i64 a, .int .i64 b, .int .i64 c, .int .i64 d, .int .i64 e, .int .i64 f]) (.int .i64 2)).run Try.prog w = .ok (.int .i64 c) w := by kernel_rfl
theorem ix3 (w : World) (a b c d e f : Int) : (Instr.index 34 (.agg #[.int .i64 a, .int .i64 b, .int .i64 c, .int .i64 d, .int .i64 e, .int .i64 f]) (.int .i64 3)).run Try.prog w = .ok (.int .i64 d) w := by kernel_rfl
theorem ix4 (w : World) (a b c d e f : Int) : (Instr.index 34 (.agg #[.int .i64 a, .int .i64 b, .int .i64 c, .int .i64 d, .int .i64 e, .int .i64 f]) (.int .i64 4)).run Try.prog w = .ok (.int .i64 e) w := by kernel_rfl
theorem ix5 (w : World) (a b c d e f : Int) : (Instr.index 34 (.agg #[.int .i64 a, .int .i64 b, .int .i64 c, .int .i64 d, .int .i64 e, .int .i64 f]) (.int .i64 5)).run Try.prog w = .ok (.int .i64 f) w := by kernel_rfl
attribute [local go_sem] ix0 ix1 ix2 ix3 ix4 ix5

set_option maxRecDepth 20000 in
set_option maxHeartbeats 4000000 in
theorem grouped_any (m : Met) (w : World) :
    Calls Try.prog 42 #[metV m] w fun e w' => e = .returned (.bool m.grp) ∧ Only [] w w' := by
  by_cases hz : m.z = true
  · have HG := Lib.hid (show m.grp = true by simp [Met.grp, hz])
    rw [HG.out]
    have hz' := hz
    unfold Met.z at hz'
    clear hz
    go_enter Try.func42, Try.ntmps42
    go_wp2
    go_ret
    exact ⟨rfl, (Only.refl _ _).alloc _⟩
  · have hz : m.z = false := by simpa using hz
    have HG := Lib.hid (show m.grp = grpE m.c (grpL m.gs 0 0 0) by simp [Met.grp, hz])
    rw [HG.out]
    have hz' := hz
    unfold Met.z at hz'
    clear hz
    obtain ⟨R, hR⟩ : ∃ R, grpE m.c (grpL m.gs 0 0 0) = R := ⟨_, rfl⟩
    have HRR := Lib.hid hR
    rw [hR]
    clear hR
    go_enter Try.func42, Try.ntmps42
    go_wp2
    clear hz'
    go_loop [13, 3, 4] (fun i s n => ∃ (j : Nat) (si ni : Int), j ≤ 6 ∧ i = .int .i64 j ∧ s = .int .i64 si ∧ n = .int .i64 ni ∧ 0 ≤ si ∧ si ≤ 64 * j ∧ 0 ≤ ni ∧ ni ≤ j ∧ Hid (grpL (m.gs.drop j) j si ni = grpL m.gs 0 0 0)) (fun i _ _ => 6 - (intOf i).toNat)
    case atStart => exact ⟨0, 0, 0, by omega, rfl, rfl, rfl, by omega, by omega, by omega, by omega, Lib.hid rfl⟩
    case round =>
      obtain ⟨j, si, ni, hj, rfl, rfl, rfl, hs1, hs2, hn1, hn2, HR⟩ := hrel
      have hjj : j = 0 ∨ j = 1 ∨ j = 2 ∨ j = 3 ∨ j = 4 ∨ j = 5 ∨ j = 6 := by omega
      rcases hjj with rfl | rfl | rfl | rfl | rfl | rfl | rfl
      · have HR := Lib.hid (show grpL (m.gs.drop 0) 0 si ni = grpL m.gs 0 0 0 from HR.out)
        have HE := Lib.hid (show grpL (m.gs.drop 0) 0 si ni = if m.g0 < 0 ∨ 64 < m.g0 ∨ (0 < m.g0 ∧ (0 : Int) ≠ ni) then none else if 0 < m.g0 then grpL (m.gs.drop 1) (0 + 1) (si + m.g0) (ni + 1) else grpL (m.gs.drop 1) (0 + 1) si ni from rfl)
        by_cases c1 : m.g0 < 0
        · go_wp2
          go_ret
          exact ⟨ret_bool (by have h1 := HE.out; rw [if_pos (.inl c1)] at h1; rw [← HRR.out, ← HR.out]; rw [h1]; rfl), (Only.refl _ _).alloc _⟩
        · by_cases c2 : 64 < m.g0
          · go_wp2
            go_ret
            exact ⟨ret_bool (by have h1 := HE.out; rw [if_pos (.inr (.inl c2))] at h1; rw [← HRR.out, ← HR.out]; rw [h1]; rfl), (Only.refl _ _).alloc _⟩
          · by_cases c3 : 0 < m.g0
            · by_cases c4 : ni = 0
              · have HE2 := Lib.hid (show grpL (m.gs.drop 1) (0 + 1) (si + m.g0) (ni + 1) = grpL m.gs 0 0 0 by have h1 := HE.out; rw [if_neg (by omega), if_pos c3] at h1; rw [← h1, HR.out])
                subst c4
                have k1 : IntKind.i64.wrap (si + m.g0) = si + m.g0 := IntWalk.i64_in _ (by omega)
                go_wp2
                go_round
                case rel => exact ⟨1, si + m.g0, 0 + 1, by omega, rfl, rfl, rfl, by omega, by omega, by omega, by omega, HE2⟩
                case measure => simp [intOf]
              · have d4 : ((0 : Int) != ni) = true := by simp; omega
                go_wp2
                go_ret
                exact ⟨ret_bool (by have h1 := HE.out; rw [if_pos (.inr (.inr ⟨c3, fun e => c4 e.symm⟩))] at h1; rw [← HRR.out, ← HR.out]; rw [h1]; rfl), (Only.refl _ _).alloc _⟩
            · have HE2 := Lib.hid (show grpL (m.gs.drop 1) (0 + 1) si ni = grpL m.gs 0 0 0 by have h1 := HE.out; rw [if_neg (by omega), if_neg c3] at h1; rw [← h1, HR.out])
              go_wp2
              go_round
              case rel => exact ⟨1, si, ni, by omega, rfl, rfl, rfl, by omega, by omega, by omega, by omega, HE2⟩
              case measure => simp [intOf]
      · have HR := Lib.hid (show grpL (m.gs.drop 1) 1 si ni = grpL m.gs 0 0 0 from HR.out)
        have HE := Lib.hid (show grpL (m.gs.drop 1) 1 si ni = if m.g1 < 0 ∨ 64 < m.g1 ∨ (0 < m.g1 ∧ (1 : Int) ≠ ni) then none else if 0 < m.g1 then grpL (m.gs.drop 2) (1 + 1) (si + m.g1) (ni + 1) else grpL (m.gs.drop 2) (1 + 1) si ni from rfl)
        by_cases c1 : m.g1 < 0
        · go_wp2
          go_ret
          exact ⟨ret_bool (by have h1 := HE.out; rw [if_pos (.inl c1)] at h1; rw [← HRR.out, ← HR.out]; rw [h1]; rfl), (Only.refl _ _).alloc _⟩
        · by_cases c2 : 64 < m.g1
          · go_wp2
            go_ret
            exact ⟨ret_bool (by have h1 := HE.out; rw [if_pos (.inr (.inl c2))] at h1; rw [← HRR.out, ← HR.out]; rw [h1]; rfl), (Only.refl _ _).alloc _⟩
          · by_cases c3 : 0 < m.g1
            · by_cases c4 : ni = 1
              · have HE2 := Lib.hid (show grpL (m.gs.drop 2) (1 + 1) (si + m.g1) (ni + 1) = grpL m.gs 0 0 0 by have h1 := HE.out; rw [if_neg (by omega), if_pos c3] at h1; rw [← h1, HR.out])
                subst c4
                have k1 : IntKind.i64.wrap (si + m.g1) = si + m.g1 := IntWalk.i64_in _ (by omega)
                go_wp2
                go_round
                case rel => exact ⟨2, si + m.g1, 1 + 1, by omega, rfl, rfl, rfl, by omega, by omega, by omega, by omega, HE2⟩
                case measure => simp [intOf]
              · have d4 : ((1 : Int) != ni) = true := by simp; omega
                go_wp2
                go_ret
                exact ⟨ret_bool (by have h1 := HE.out; rw [if_pos (.inr (.inr ⟨c3, fun e => c4 e.symm⟩))] at h1; rw [← HRR.out, ← HR.out]; rw [h1]; rfl), (Only.refl _ _).alloc _⟩
            · have HE2 := Lib.hid (show grpL (m.gs.drop 2) (1 + 1) si ni = grpL m.gs 0 0 0 by have h1 := HE.out; rw [if_neg (by omega), if_neg c3] at h1; rw [← h1, HR.out])
              go_wp2
              go_round
              case rel => exact ⟨2, si, ni, by omega, rfl, rfl, rfl, by omega, by omega, by omega, by omega, HE2⟩
              case measure => simp [intOf]
      · have HR := Lib.hid (show grpL (m.gs.drop 2) 2 si ni = grpL m.gs 0 0 0 from HR.out)
        have HE := Lib.hid (show grpL (m.gs.drop 2) 2 si ni = if m.g2 < 0 ∨ 64 < m.g2 ∨ (0 < m.g2 ∧ (2 : Int) ≠ ni) then none else if 0 < m.g2 then grpL (m.gs.drop 3) (2 + 1) (si + m.g2) (ni + 1) else grpL (m.gs.drop 3) (2 + 1) si ni from rfl)
        by_cases c1 : m.g2 < 0
        · go_wp2
          go_ret
          exact ⟨ret_bool (by have h1 := HE.out; rw [if_pos (.inl c1)] at h1; rw [← HRR.out, ← HR.out]; rw [h1]; rfl), (Only.refl _ _).alloc _⟩
        · by_cases c2 : 64 < m.g2
          · go_wp2
            go_ret
            exact ⟨ret_bool (by have h1 := HE.out; rw [if_pos (.inr (.inl c2))] at h1; rw [← HRR.out, ← HR.out]; rw [h1]; rfl), (Only.refl _ _).alloc _⟩
          · by_cases c3 : 0 < m.g2
            · by_cases c4 : ni = 2
              · have HE2 := Lib.hid (show grpL (m.gs.drop 3) (2 + 1) (si + m.g2) (ni + 1) = grpL m.gs 0 0 0 by have h1 := HE.out; rw [if_neg (by omega), if_pos c3] at h1; rw [← h1, HR.out])
                subst c4
                have k1 : IntKind.i64.wrap (si + m.g2) = si + m.g2 := IntWalk.i64_in _ (by omega)
                go_wp2
                go_round
                case rel => exact ⟨3, si + m.g2, 2 + 1, by omega, rfl, rfl, rfl, by omega, by omega, by omega, by omega, HE2⟩
                case measure => simp [intOf]
              · have d4 : ((2 : Int) != ni) = true := by simp; omega
                go_wp2
                go_ret
                exact ⟨ret_bool (by have h1 := HE.out; rw [if_pos (.inr (.inr ⟨c3, fun e => c4 e.symm⟩))] at h1; rw [← HRR.out, ← HR.out]; rw [h1]; rfl), (Only.refl _ _).alloc _⟩
            · have HE2 := Lib.hid (show grpL (m.gs.drop 3) (2 + 1) si ni = grpL m.gs 0 0 0 by have h1 := HE.out; rw [if_neg (by omega), if_neg c3] at h1; rw [← h1, HR.out])
              go_wp2
              go_round
              case rel => exact ⟨3, si, ni, by omega, rfl, rfl, rfl, by omega, by omega, by omega, by omega, HE2⟩
              case measure => simp [intOf]
      · have HR := Lib.hid (show grpL (m.gs.drop 3) 3 si ni = grpL m.gs 0 0 0 from HR.out)
        have HE := Lib.hid (show grpL (m.gs.drop 3) 3 si ni = if m.g3 < 0 ∨ 64 < m.g3 ∨ (0 < m.g3 ∧ (3 : Int) ≠ ni) then none else if 0 < m.g3 then grpL (m.gs.drop 4) (3 + 1) (si + m.g3) (ni + 1) else grpL (m.gs.drop 4) (3 + 1) si ni from rfl)
        by_cases c1 : m.g3 < 0
        · go_wp2
          go_ret
          exact ⟨ret_bool (by have h1 := HE.out; rw [if_pos (.inl c1)] at h1; rw [← HRR.out, ← HR.out]; rw [h1]; rfl), (Only.refl _ _).alloc _⟩
        · by_cases c2 : 64 < m.g3
          · go_wp2
            go_ret
            exact ⟨ret_bool (by have h1 := HE.out; rw [if_pos (.inr (.inl c2))] at h1; rw [← HRR.out, ← HR.out]; rw [h1]; rfl), (Only.refl _ _).alloc _⟩
          · by_cases c3 : 0 < m.g3
            · by_cases c4 : ni = 3
              · have HE2 := Lib.hid (show grpL (m.gs.drop 4) (3 + 1) (si + m.g3) (ni + 1) = grpL m.gs 0 0 0 by have h1 := HE.out; rw [if_neg (by omega), if_pos c3] at h1; rw [← h1, HR.out])
                subst c4
                have k1 : IntKind.i64.wrap (si + m.g3) = si + m.g3 := IntWalk.i64_in _ (by omega)
                go_wp2
                go_round
                case rel => exact ⟨4, si + m.g3, 3 + 1, by omega, rfl, rfl, rfl, by omega, by omega, by omega, by omega, HE2⟩
                case measure => simp [intOf]
              · have d4 : ((3 : Int) != ni) = true := by simp; omega
                go_wp2
                go_ret
                exact ⟨ret_bool (by have h1 := HE.out; rw [if_pos (.inr (.inr ⟨c3, fun e => c4 e.symm⟩))] at h1; rw [← HRR.out, ← HR.out]; rw [h1]; rfl), (Only.refl _ _).alloc _⟩
            · have HE2 := Lib.hid (show grpL (m.gs.drop 4) (3 + 1) si ni = grpL m.gs 0 0 0 by have h1 := HE.out; rw [if_neg (by omega), if_neg c3] at h1; rw [← h1, HR.out])
              go_wp2
              go_round
              case rel => exact ⟨4, si, ni, by omega, rfl, rfl, rfl, by omega, by omega, by omega, by omega, HE2⟩
              case measure => simp [intOf]
      · have HR := Lib.hid (show grpL (m.gs.drop 4) 4 si ni = grpL m.gs 0 0 0 from HR.out)
        have HE := Lib.hid (show grpL (m.gs.drop 4) 4 si ni = if m.g4 < 0 ∨ 64 < m.g4 ∨ (0 < m.g4 ∧ (4 : Int) ≠ ni) then none else if 0 < m.g4 then grpL (m.gs.drop 5) (4 + 1) (si + m.g4) (ni + 1) else grpL (m.gs.drop 5) (4 + 1) si ni from rfl)
        by_cases c1 : m.g4 < 0
        · go_wp2
          go_ret
          exact ⟨ret_bool (by have h1 := HE.out; rw [if_pos (.inl c1)] at h1; rw [← HRR.out, ← HR.out]; rw [h1]; rfl), (Only.refl _ _).alloc _⟩
        · by_cases c2 : 64 < m.g4
          · go_wp2
            go_ret
            exact ⟨ret_bool (by have h1 := HE.out; rw [if_pos (.inr (.inl c2))] at h1; rw [← HRR.out, ← HR.out]; rw [h1]; rfl), (Only.refl _ _).alloc _⟩
          · by_cases c3 : 0 < m.g4
            · by_cases c4 : ni = 4
              · have HE2 := Lib.hid (show grpL (m.gs.drop 5) (4 + 1) (si + m.g4) (ni + 1) = grpL m.gs 0 0 0 by have h1 := HE.out; rw [if_neg (by omega), if_pos c3] at h1; rw [← h1, HR.out])
                subst c4
                have k1 : IntKind.i64.wrap (si + m.g4) = si + m.g4 := IntWalk.i64_in _ (by omega)
                go_wp2
                go_round
                case rel => exact ⟨5, si + m.g4, 4 + 1, by omega, rfl, rfl, rfl, by omega, by omega, by omega, by omega, HE2⟩
                case measure => simp [intOf]
              · have d4 : ((4 : Int) != ni) = true := by simp; omega
                go_wp2
                go_ret
                exact ⟨ret_bool (by have h1 := HE.out; rw [if_pos (.inr (.inr ⟨c3, fun e => c4 e.symm⟩))] at h1; rw [← HRR.out, ← HR.out]; rw [h1]; rfl), (Only.refl _ _).alloc _⟩
            · have HE2 := Lib.hid (show grpL (m.gs.drop 5) (4 + 1) si ni = grpL m.gs 0 0 0 by have h1 := HE.out; rw [if_neg (by omega), if_neg c3] at h1; rw [← h1, HR.out])
              go_wp2
              go_round
              case rel => exact ⟨5, si, ni, by omega, rfl, rfl, rfl, by omega, by omega, by omega, by omega, HE2⟩
              case measure => simp [intOf]
      · have HR := Lib.hid (show grpL (m.gs.drop 5) 5 si ni = grpL m.gs 0 0 0 from HR.out)
        have HE := Lib.hid (show grpL (m.gs.drop 5) 5 si ni = if m.g5 < 0 ∨ 64 < m.g5 ∨ (0 < m.g5 ∧ (5 : Int) ≠ ni) then none else if 0 < m.g5 then grpL (m.gs.drop 6) (5 + 1) (si + m.g5) (ni + 1) else grpL (m.gs.drop 6) (5 + 1) si ni from rfl)
        by_cases c1 : m.g5 < 0
        · go_wp2
          go_ret
          exact ⟨ret_bool (by have h1 := HE.out; rw [if_pos (.inl c1)] at h1; rw [← HRR.out, ← HR.out]; rw [h1]; rfl), (Only.refl _ _).alloc _⟩
        · by_cases c2 : 64 < m.g5
          · go_wp2
            go_ret
            exact ⟨ret_bool (by have h1 := HE.out; rw [if_pos (.inr (.inl c2))] at h1; rw [← HRR.out, ← HR.out]; rw [h1]; rfl), (Only.refl _ _).alloc _⟩
          · by_cases c3 : 0 < m.g5
            · by_cases c4 : ni = 5
              · have HE2 := Lib.hid (show grpL (m.gs.drop 6) (5 + 1) (si + m.g5) (ni + 1) = grpL m.gs 0 0 0 by have h1 := HE.out; rw [if_neg (by omega), if_pos c3] at h1; rw [← h1, HR.out])
                subst c4
                have k1 : IntKind.i64.wrap (si + m.g5) = si + m.g5 := IntWalk.i64_in _ (by omega)
                go_wp2
                go_round
                case rel => exact ⟨6, si + m.g5, 5 + 1, by omega, rfl, rfl, rfl, by omega, by omega, by omega, by omega, HE2⟩
                case measure => simp [intOf]
              · have d4 : ((5 : Int) != ni) = true := by simp; omega
                go_wp2
                go_ret
                exact ⟨ret_bool (by have h1 := HE.out; rw [if_pos (.inr (.inr ⟨c3, fun e => c4 e.symm⟩))] at h1; rw [← HRR.out, ← HR.out]; rw [h1]; rfl), (Only.refl _ _).alloc _⟩
            · have HE2 := Lib.hid (show grpL (m.gs.drop 6) (5 + 1) si ni = grpL m.gs 0 0 0 by have h1 := HE.out; rw [if_neg (by omega), if_neg c3] at h1; rw [← h1, HR.out])
              go_wp2
              go_round
              case rel => exact ⟨6, si, ni, by omega, rfl, rfl, rfl, by omega, by omega, by omega, by omega, HE2⟩
              case measure => simp [intOf]
      · have HE := Lib.hid (show grpE m.c (some (si, ni)) = R by rw [← HRR.out, ← HR.out]; rfl)
        by_cases c1 : si = m.c
        · by_cases c2 : 2 ≤ ni
          · have d1 : (si == m.c) = true := by simpa using c1
            go_wp2
            go_ret
            exact ⟨ret_bool (by rw [← HE.out]; simp [grpE, c1, c2]), (Only.refl _ _).alloc _⟩
          · have d1 : (si == m.c) = true := by simpa using c1
            go_wp2
            go_ret
            exact ⟨ret_bool (by rw [← HE.out]; simp [grpE, c2]), (Only.refl _ _).alloc _⟩
        · have d1 : (si == m.c) = false := by simpa using c1
          go_wp2
          go_ret
          exact ⟨ret_bool (by rw [← HE.out]; simp [grpE, c1]), (Only.refl _ _).alloc _⟩
def Met.chk (m : Met) : Int := if m.c < 1 ∨ 64 < m.c then 2 else if m.u < 1 ∨ 64 < m.u ∨ bits BinOp.and IntKind.i64 m.u (m.u - 1) ≠ 0 then 17 else if m.grp = true then 0 else 19

set_option maxRecDepth 20000 in
set_option maxHeartbeats 4000000 in
theorem Check_any (m : Met) (w : World) :
    Calls Try.prog 37 #[metV m] w fun e w' => e = .returned (.int .i64 m.chk) ∧ Only [] w w' := by
  have HB := Lib.hid (show m.chk = if m.c < 1 ∨ 64 < m.c then 2 else if m.u < 1 ∨ 64 < m.u ∨ bits BinOp.and IntKind.i64 m.u (m.u - 1) ≠ 0 then 17 else if m.grp = true then 0 else 19 from rfl)
  generalize m.chk = R at *
  obtain ⟨g, hg⟩ : ∃ g, m.grp = g := ⟨_, rfl⟩
  have HGR := Lib.hid (grouped_any m)
  rw [hg] at HGR HB
  clear hg
  by_cases c1 : m.c < 1
  · go_enter Try.func37, Try.ntmps37
    go_wp2
    go_ret
    exact ⟨ret_int (by rw [HB.out, if_pos (.inl c1)]), (Only.refl _ _).alloc _⟩
  by_cases c2 : 64 < m.c
  · go_enter Try.func37, Try.ntmps37
    go_wp2
    go_ret
    exact ⟨ret_int (by rw [HB.out, if_pos (.inr c2)]), (Only.refl _ _).alloc _⟩
  have HB := Lib.hid (by have := HB.out; rw [if_neg (by omega)] at this; exact this)
  by_cases c3 : m.u < 1
  · go_enter Try.func37, Try.ntmps37
    go_wp2
    go_ret
    exact ⟨ret_int (by rw [HB.out, if_pos (.inl c3)]), (Only.refl _ _).alloc _⟩
  by_cases c4 : 64 < m.u
  · go_enter Try.func37, Try.ntmps37
    go_wp2
    go_ret
    exact ⟨ret_int (by rw [HB.out, if_pos (.inr (.inl c4))]), (Only.refl _ _).alloc _⟩
  obtain ⟨b, hb⟩ : ∃ b, bits BinOp.and IntKind.i64 m.u (m.u - 1) = b := ⟨_, rfl⟩
  have HB := Lib.hid (by have := HB.out; rw [hb] at this; exact this)
  by_cases c5 : b = 0
  · subst c5
    have HB := Lib.hid (by have := HB.out; rw [if_neg (by omega)] at this; exact this)
    cases g
    · go_enter Try.func37, Try.ntmps37
      go_wp2_with (go_at_call 42; refine (HGR.out _).mono ?_; rintro e w1 ⟨rfl, o1⟩)
      go_ret
      exact ⟨ret_int (by rw [HB.out]; rfl), ((Only.refl _ _).alloc _).trans o1⟩
    · go_enter Try.func37, Try.ntmps37
      go_wp2_with (go_at_call 42; refine (HGR.out _).mono ?_; rintro e w1 ⟨rfl, o1⟩)
      go_ret
      exact ⟨ret_int (by rw [HB.out]; rfl), ((Only.refl _ _).alloc _).trans o1⟩
  · have c5' : (b != 0) = true := by simpa using c5
    have HB := Lib.hid (by have := HB.out; rw [if_pos (.inr (.inr c5))] at this; exact this)
    clear c5
    go_enter Try.func37, Try.ntmps37
    go_wp2
    go_ret
    exact ⟨ret_int HB.out.symm, (Only.refl _ _).alloc _⟩

/-- What a metre without errors has. -/
structure Met.Ok (m : Met) : Prop where
  c1 : 1 ≤ m.c
  c2 : m.c ≤ 64
  u1 : 1 ≤ m.u
  u2 : m.u ≤ 64
  g : m.grp = true
theorem Met.ok_of {m : Met} (h : m.chk = 0) : m.Ok := by
  unfold Met.chk at h
  by_cases h1 : m.c < 1 ∨ 64 < m.c
  · rw [if_pos h1] at h; omega
  · rw [if_neg h1] at h
    by_cases h2 : m.u < 1 ∨ 64 < m.u ∨ bits BinOp.and IntKind.i64 m.u (m.u - 1) ≠ 0
    · rw [if_pos h2] at h; omega
    · rw [if_neg h2] at h
      by_cases h3 : m.grp = true
      · exact ⟨by omega, by omega, by omega, by omega, h3⟩
      · rw [if_neg h3] at h; omega
theorem Met.chk_le (m : Met) : 0 ≤ m.chk ∧ m.chk ≤ 19 := by
  unfold Met.chk
  repeat' split
  all_goals omega

set_option maxRecDepth 20000 in
set_option maxHeartbeats 4000000 in
theorem Length_any (m : Met) (h : m.chk = 0) (w : World) :
    Calls Try.prog 38 #[metV m] w fun e w' => e = .returned (.tuple #[.int .i64 m.len, .int .i64 0]) ∧ Only [] w w' := by
  have HC := Lib.hid (Check_any m)
  rw [h] at HC
  have hk := Met.ok_of h
  have HL := Lib.hid (length_any m hk.c1 hk.c2 hk.u1 hk.u2)
  clear hk h
  generalize m.len = l at *
  have BB := Lib.hid (Blk.new w 36 (metL m))
  go_enter Try.func38, Try.ntmps38
  go_wp2_with (first
    | (go_at_call 37; refine (HC.out _).mono ?_; rintro e w1 ⟨rfl, o1⟩; obtain ⟨b1, b10, b11, b12, b13, b14, b15, b16, b17⟩ := met_cells BB.out o1)
    | (go_at_call 43; refine (HL.out _).mono ?_; rintro e w2 ⟨rfl, o2⟩))
  go_ret2
  exact ⟨rfl, (((Only.refl _ _).alloc _).trans o1).trans o2⟩
set_option maxRecDepth 20000 in
set_option maxHeartbeats 4000000 in
theorem tick_ok (m : Met) (h : m.chk = 0) (t : Int) (h1 : 0 ≤ t) (h2 : t ≤ 4398046511104) (w : World) :
    Calls Try.prog 44 #[metV m, .int .i64 t] w fun e w' => e = .returned (.int .i64 0) ∧ Only [] w w' := by
  have HC := Lib.hid (Check_any m)
  rw [h] at HC
  clear h
  have c1 : ¬ t < 0 := by omega
  have c2 : ¬ 4398046511104 < t := by omega
  go_enter Try.func44, Try.ntmps44
  go_wp2_with (go_at_call 37; refine (HC.out _).mono ?_; rintro e w1 ⟨rfl, o1⟩)
  go_ret
  exact ⟨rfl, ((Only.refl _ _).alloc _).trans o1⟩
end Go.Proofs.Ytglkpoiajebleaa
