/- DERIVED. The statements of chapter 26: check, checkGroup, checkMetre. -/
import Derived.Test.YtglkpoiajebleaaPlc
namespace Go.Proofs.Ytglkpoiajebleaa
open Go.RowKit

set_option maxRecDepth 20000 in
set_option maxHeartbeats 400000000 in
theorem mcheck_any {w : World} {A : Option Addr} {l : List Nt} (c : Nat) (h : NotesAt w A l) (hl : l.length ≤ 128) :
    Calls Try.prog 22 #[.slice A l.length c] w fun e w' => e = .returned (.int .i64 (ntE none l)) ∧ Only [] w w' := by
  have h8 : ¬ 128 < l.length := by omega
  have H := Lib.hid h
  obtain ⟨R, hR⟩ : ∃ R, ntE none l = R := ⟨_, rfl⟩
  have HR := Lib.hid hR
  rw [hR]
  clear h hR
  go_enter Try.func22, Try.ntmps22
  go_wp2_with fail
  go_loopw [3] (fun i wr => ∃ j : Nat, j ≤ l.length ∧ i = .int .i64 j ∧ Hid (ntE (prevE l j) (l.drop j) = R) ∧ Hid (∀ r (h : r < l.length), r < j → l[r].Ok) ∧ Only [] w wr) (fun i _ => l.length - (intOf i).toNat)
  case atStart => exact ⟨0, by omega, rfl, HR, Lib.hid (fun r _ h => absurd h (by omega)), Only.refl _ _⟩
  case round =>
    obtain ⟨j, hj, rfl, HRj, HOK, hO⟩ := hrel
    by_cases hlt : j < l.length
    · have HE := Lib.hid (ntE_step l j hlt)
      obtain ⟨b, off, rfl, hb, hcs⟩ := (H.out.only hO) j hlt
      have m0 := hcs 0 (by omega)
      have m1 := hcs 1 (by omega)
      have m2 := hcs 2 (by omega)
      have m3 := hcs 3 (by omega)
      have m4 := hcs 4 (by omega)
      have m5 := hcs 5 (by omega)
      simp only [Nt.vs, List.getElem?_cons_zero, List.getElem?_cons_succ, Nat.add_zero] at m0 m1 m2 m3 m4 m5
      clear hcs
      obtain ⟨x, hx⟩ : ∃ x, l[j] = x := ⟨_, rfl⟩
      rw [hx] at m0 m1 m2 m3 m4 m5 HE
      have j0 : (0 : Int) ≤ (j : Int) := by omega
      have j1 : (j : Int) < (l.length : Int) := by omega
      have HX := Lib.hid hx
      have HO := Lib.hid (hO.alloc (ntBox x))
      by_cases t0 : x.t < 0
      · have HN := Lib.hid (show R = 2 by rw [← HRj.out, HE.out, if_neg (fun h => by have := h.c0; omega)])
        clear hx hO
        go_wp2_with fail
        go_ret
        exact ⟨ret_int HN.out.symm, HO.out⟩
      by_cases t1 : 4398046511104 < x.t
      · have HN := Lib.hid (show R = 2 by rw [← HRj.out, HE.out, if_neg (fun h => by have := h.c0; omega)])
        clear hx hO
        go_wp2_with fail
        go_ret
        exact ⟨ret_int HN.out.symm, HO.out⟩
      by_cases t2 : x.len < 1
      · have HN := Lib.hid (show R = 2 by rw [← HRj.out, HE.out, if_neg (fun h => by have := h.c1; omega)])
        clear hx hO
        go_wp2_with fail
        go_ret
        exact ⟨ret_int HN.out.symm, HO.out⟩
      by_cases t3 : 4398046511104 < x.len
      · have HN := Lib.hid (show R = 2 by rw [← HRj.out, HE.out, if_neg (fun h => by have := h.c1; omega)])
        clear hx hO
        go_wp2_with fail
        go_ret
        exact ⟨ret_int HN.out.symm, HO.out⟩
      have ks : IntKind.i64.wrap (x.t + x.len) = x.t + x.len := IntWalk.i64_in _ (by omega)
      by_cases t4 : 4398046511104 < x.t + x.len
      · have HN := Lib.hid (show R = 2 by rw [← HRj.out, HE.out, if_neg (fun h => by have := h.cs; omega)])
        clear hx hO
        go_wp2_with fail
        go_ret
        exact ⟨ret_int HN.out.symm, HO.out⟩
      by_cases t5 : x.fl < 0
      · have HN := Lib.hid (show R = 2 by rw [← HRj.out, HE.out, if_neg (fun h => by have := h.c2; omega)])
        clear hx hO
        go_wp2_with fail
        go_ret
        exact ⟨ret_int HN.out.symm, HO.out⟩
      by_cases t6 : 6 < x.fl
      · have HN := Lib.hid (show R = 2 by rw [← HRj.out, HE.out, if_neg (fun h => by have := h.c2; omega)])
        clear hx hO
        go_wp2_with fail
        go_ret
        exact ⟨ret_int HN.out.symm, HO.out⟩
      by_cases t7 : x.st < 0
      · have HN := Lib.hid (show R = 2 by rw [← HRj.out, HE.out, if_neg (fun h => by have := h.c3; omega)])
        clear hx hO
        go_wp2_with fail
        go_ret
        exact ⟨ret_int HN.out.symm, HO.out⟩
      by_cases t8 : 2 < x.st
      · have HN := Lib.hid (show R = 2 by rw [← HRj.out, HE.out, if_neg (fun h => by have := h.c3; omega)])
        clear hx hO
        go_wp2_with fail
        go_ret
        exact ⟨ret_int HN.out.symm, HO.out⟩
      by_cases t9 : x.hd < -1048576
      · have HN := Lib.hid (show R = 2 by rw [← HRj.out, HE.out, if_neg (fun h => by have := h.c4; omega)])
        clear hx hO
        go_wp2_with fail
        go_ret
        exact ⟨ret_int HN.out.symm, HO.out⟩
      by_cases t10 : 1048576 < x.hd
      · have HN := Lib.hid (show R = 2 by rw [← HRj.out, HE.out, if_neg (fun h => by have := h.c4; omega)])
        clear hx hO
        go_wp2_with fail
        go_ret
        exact ⟨ret_int HN.out.symm, HO.out⟩
      by_cases t11 : x.cl < -1048576
      · have HN := Lib.hid (show R = 2 by rw [← HRj.out, HE.out, if_neg (fun h => by have := h.c5; omega)])
        clear hx hO
        go_wp2_with fail
        go_ret
        exact ⟨ret_int HN.out.symm, HO.out⟩
      by_cases t12 : 1048576 < x.cl
      · have HN := Lib.hid (show R = 2 by rw [← HRj.out, HE.out, if_neg (fun h => by have := h.c5; omega)])
        clear hx hO
        go_wp2_with fail
        go_ret
        exact ⟨ret_int HN.out.symm, HO.out⟩
      have HXO := Lib.hid (show x.Ok from ⟨by omega, by omega, by omega, by omega, by omega, by omega, by omega⟩)
      have HA2 := Lib.hid (show ∀ r (hr : r < l.length), r < j + 1 → l[r].Ok from fun r hr h => by
        by_cases e : r = j
        · subst e; rw [hx]; exact HXO.out
        · exact HOK.out r hr (by omega))
      have HE2 := HE.out
      rw [if_pos HXO.out] at HE2
      by_cases hz : 0 < j
      · have hj1 : j - 1 < l.length := by omega
        have hpo := HOK.out (j - 1) hj1 (by omega)
        obtain ⟨b', off', hA', hb', hds⟩ := (H.out.only (HO.out)) (j - 1) hj1
        obtain ⟨b'', off'', hA'', hb'', hes⟩ := (H.out.only hO) (j - 1) hj1
        simp only [Option.some.injEq, Addr.mk.injEq, and_true] at hA' hA''
        obtain ⟨rfl, rfl⟩ := hA'
        obtain ⟨rfl, rfl⟩ := hA''
        have hpe : prevE l j = some (l[j - 1].t + l[j - 1].len) := by
          obtain ⟨q, rfl⟩ : ∃ q, j = q + 1 := ⟨j - 1, by omega⟩
          simp only [Nat.add_sub_cancel] at hj1 ⊢
          simp [prevE, hj1]
        obtain ⟨y, hy⟩ : ∃ y, l[j - 1] = y := ⟨_, rfl⟩
        rw [hy] at hds hes hpe hpo
        have p0 := hds 0 (by omega)
        have p1 := hds 1 (by omega)
        simp only [Nt.vs, List.getElem?_cons_zero, List.getElem?_cons_succ, Nat.add_zero] at p0 p1
        have wy : IntKind.i64.wrap (y.t + y.len) = y.t + y.len := IntWalk.i64_in _ (by have := hpo.c0; have := hpo.c1; omega)
        have wj : IntKind.i64.wrap ((j : Int) - 1) = ((j - 1 : Nat) : Int) := by rw [IntWalk.i64_in _ (by omega)]; omega
        have jz : (0 : Int) < (j : Int) := by omega
        have jx : (0 : Int) ≤ ((j - 1 : Nat) : Int) := by omega
        have jy : ((j - 1 : Nat) : Int) < (l.length : Int) := by omega

        by_cases hord : x.t < y.t + y.len
        · have HN := Lib.hid (show R = 25 by rw [← HRj.out, HE.out, if_pos HXO.out, hpe, if_pos ⟨_, rfl, hord⟩])
          have dz : decide (0 < j) = true := decide_eq_true hz
          clear hx hO hds hes hpe hpo hy HE2
          go_wp2_with fail
          go_quiet (fail)
          go_wp2
          go_ret
          exact ⟨ret_int HN.out.symm, HO.out.drewN _⟩
        · have HN := Lib.hid (show ntE (prevE l (j + 1)) (l.drop (j + 1)) = R by rw [← HRj.out, HE.out, if_pos HXO.out, hpe, if_neg (by rintro ⟨e, he, h2⟩; injection he with he; omega)])
          have dz : decide (0 < j) = true := decide_eq_true hz
          clear hx hO hds hes hpe hpo hy HE2
          go_wp2_with fail
          go_quiet (fail)
          go_wp2
          go_roundw
          case rel => exact ⟨j + 1, by omega, by go_num, HN, HA2, HO.out.drewN _⟩
          case measure => simp [intOf]; omega
      · have jz : ¬ (0 : Int) < (j : Int) := by omega
        have HN := Lib.hid (show ntE (prevE l (j + 1)) (l.drop (j + 1)) = R by
          rw [← HRj.out, HE2, if_neg]
          obtain rfl : j = 0 := by omega
          rintro ⟨e, he, h2⟩
          cases he)
        have dz : decide (0 < j) = false := decide_eq_false hz
        clear hx hO HE2
        go_wp2_with fail
        go_quiet (fail)
        go_wp2
        go_roundw
        case rel => exact ⟨j + 1, by omega, by go_num, HN, HA2, HO.out.drewN _⟩
        case measure => simp [intOf]; omega
    · have HN := Lib.hid (show R = 0 by rw [← HRj.out, List.drop_eq_nil_of_le (by omega), ntE])
      go_wp2_with fail
      go_ret
      exact ⟨ret_int HN.out.symm, hO⟩
end Go.Proofs.Ytglkpoiajebleaa
