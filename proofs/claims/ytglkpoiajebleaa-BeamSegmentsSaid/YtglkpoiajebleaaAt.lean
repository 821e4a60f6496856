/- DERIVED. Contracts of package metre: At. -/
import Derived.Test.YtglkpoiajebleaaBts
namespace Go.Proofs.Ytglkpoiajebleaa
open Go.RowKit

/-- What the loop of At holds behind the first k beats. -/
def atTo (l : List Int) (t : Int) : Nat → Int × Int
  | 0 => (0, 0)
  | k + 1 => if l.getD k 0 ≤ t then ((k : Int), t - l.getD k 0) else atTo l t k
theorem atTo_rng (l : List Int) (t : Int) : ∀ k, 0 ≤ (atTo l t k).1 ∧ (atTo l t k).1 ≤ k
  | 0 => by simp [atTo]
  | k + 1 => by
    have ih := atTo_rng l t k
    unfold atTo
    split
    · simp; omega
    · omega
theorem bts_rng {un : Int} (h1 : 0 ≤ un) (h2 : un ≤ 1935360) : ∀ (l : List Int) (t : Int), (∀ x ∈ l, 0 ≤ x ∧ x ≤ 64) → ∀ y ∈ bts un l t, t ≤ y ∧ y ≤ t + 123863040 * (l.length : Int)
  | [], t, _, y, hy => by simp [bts] at hy
  | g :: r, t, h, y, hy => by
    have hg := h g (by simp)
    have e1 : 0 ≤ g * un := Int.mul_nonneg hg.1 h1
    have e2 : g * un ≤ 64 * 1935360 := Int.mul_le_mul hg.2 h2 h1 (by omega)
    simp only [bts, List.mem_cons] at hy
    simp only [List.length_cons]
    rcases hy with rfl | hy
    · omega
    · have ih := bts_rng h1 h2 r (t + g * un) (fun x hx => h x (by simp [hx])) y hy
      generalize g * un = p at *
      omega

set_option maxRecDepth 20000 in
set_option maxHeartbeats 4000000 in
theorem At_any (m : Met) (hc : m.chk = 0) (gs : List Int) (hG : GrpC m gs) (hl : gs.length ≤ 64) (hg : ∀ x ∈ gs, 0 ≤ x ∧ x ≤ 64) (t : Int) (h1 : 0 ≤ t) (h2 : t ≤ 4398046511104) (w : World) :
    Calls Try.prog 39 #[metV m, .int .i64 t] w fun e w' =>
      e = .returned (.tuple #[.int .i64 (atTo (bts m.un gs 0) (t % m.len) gs.length).1, .int .i64 (atTo (bts m.un gs 0) (t % m.len) gs.length).2, .int .i64 0]) ∧ Only [] w w' := by
  have hk := Met.ok_of hc
  have HT := Lib.hid (tick_ok m hc t h1 h2)
  have HL := Lib.hid (length_any m hk.c1 hk.c2 hk.u1 hk.u2)
  have HBT := Lib.hid (beats_any m hk gs hG hl hg)
  have hr := un_rng hk.u1 hk.u2
  have hlr := len_rng hk.c1 hk.c2 hr.1 hr.2
  have hbr := bts_rng (un := m.un) (by unfold Met.un; omega) (by unfold Met.un; omega) gs 0 hg
  have hbl := bts_len m.un gs 0
  obtain ⟨L, hL⟩ : ∃ L, m.len = L := ⟨_, rfl⟩
  have hL1 : 30240 ≤ L ∧ L ≤ 123863040 := by rw [← hL]; exact hlr
  rw [hL] at HL ⊢
  obtain ⟨l, hll⟩ : ∃ l, bts m.un gs 0 = l := ⟨_, rfl⟩
  rw [hll] at HBT hbr hbl ⊢
  have HBR := Lib.hid hbr
  have HBL := Lib.hid hbl
  have BB := Lib.hid (Blk.new w 36 (metL m))
  clear hk hc hG hg hr hlr hbr hbl hL hll
  have q0 : 0 ≤ t % L := Int.emod_nonneg _ (by omega)
  have q1 : t % L < L := Int.emod_lt_of_pos _ (by omega)
  have q2 : ¬ L = 0 := by omega
  have q3 : Int.tmod t L = t % L := Int.tmod_eq_emod_of_nonneg h1
  obtain ⟨r, hrr⟩ : ∃ r, t % L = r := ⟨_, rfl⟩
  rw [hrr] at q0 q1 q3 ⊢
  go_enter Try.func39, Try.ntmps39
  go_wp2_with (first
    | (go_at_call 44; refine (HT.out _).mono ?_; rintro e w1 ⟨rfl, o1⟩; obtain ⟨b1, b10, b11, b12, b13, b14, b15, b16, b17⟩ := met_cells BB.out o1)
    | (have _a := b1; go_at_call 43; refine (HL.out _).mono ?_; rintro e w2 ⟨rfl, o2⟩; obtain ⟨c1, c10, c11, c12, c13, c14, c15, c16, c17⟩ := met_cells b1 o2)
    | (have _a := c1; go_at_call 45; refine (HBT.out _).mono ?_; rintro e w3 ⟨A, cap, rfl, hrow, o3⟩))
  have O3 := Lib.hid (((((Only.refl [] w).alloc (metBox m)).trans o1).trans o2).trans o3)
  have HROW := Lib.hid hrow
  clear b1 b10 b11 b12 b13 b14 b15 b16 b17 c1 c10 c11 c12 c13 c14 c15 c16 c17 hrow o1 o2 o3
  go_loop [4, 5, 24] (fun b o i => ∃ j : Nat, j ≤ gs.length ∧ i = .int .i64 j ∧ b = .int .i64 (atTo l r j).1 ∧ o = .int .i64 (atTo l r j).2) (fun _ _ i => gs.length - (intOf i).toNat)
  case atStart => exact ⟨0, by omega, rfl, rfl, rfl⟩
  case round =>
    obtain ⟨j, hj, rfl, rfl, rfl⟩ := hrel
    by_cases hlt : j < gs.length
    · have hlj : j < l.length := by have := HBL.out; omega
      obtain ⟨D, hA, -, hcell⟩ := HROW.out j hlj
      subst hA
      have hy := HBR.out l[j] (List.getElem_mem hlj)
      have EE := Lib.hid (show atTo l r (j + 1) = if l[j] ≤ r then ((j : Int), r - l[j]) else atTo l r j by
        rw [show l[j] = l.getD j 0 by simp [List.getD, hlj]]; rfl)
      generalize l[j] = y at *
      have j0 : (0 : Int) ≤ (j : Int) := by omega
      have j1 : (j : Int) < (gs.length : Int) := by omega
      have k1 : IntKind.i64.wrap (r - y) = r - y := IntWalk.i64_in _ (by omega)
      clear hy
      by_cases c : y ≤ r
      · have EE := Lib.hid (show atTo l r (j + 1) = ((j : Int), r - y) by rw [EE.out, if_pos c])
        go_wp2
        go_round
        case rel => exact ⟨j + 1, by omega, by go_num, by rw [EE.out], by rw [EE.out]⟩
        case measure => simp [intOf]; omega
      · have EE := Lib.hid (show atTo l r (j + 1) = atTo l r j by rw [EE.out, if_neg c])
        go_wp2
        go_round
        case rel => exact ⟨j + 1, by omega, by go_num, by rw [EE.out], by rw [EE.out]⟩
        case measure => simp [intOf]; omega
    · obtain rfl : j = gs.length := by omega
      go_wp2
      go_ret3
      exact ⟨rfl, O3.out⟩
end Go.Proofs.Ytglkpoiajebleaa
