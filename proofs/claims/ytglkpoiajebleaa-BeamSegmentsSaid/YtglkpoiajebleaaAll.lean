/- DERIVED. Contracts of package beam: checkAll. -/
import Derived.Test.YtglkpoiajebleaaGck
import Derived.Test.YtglkpoiajebleaaPla
namespace Go.Proofs.Ytglkpoiajebleaa
open Go.RowKit

open Classical in
/-- The error of notes that are too late in their metre. -/
noncomputable def lateE (off : Int) (l : List Nt) : Int := if ∃ x ∈ l, 4398046511104 < off + x.t then 2 else 0
/-- The first error of a metre, an offset and notes. -/
noncomputable def allE (m : Met) (off : Int) (l : List Nt) : Int :=
  if m.chk ≠ 0 then m.chk else if ¬ (0 ≤ off ∧ off ≤ 4398046511104) then 2 else if ntE none l ≠ 0 then ntE none l else lateE off l

open Classical in
theorem ntE_ok : ∀ (l : List Nt) (p : Option Int), ntE p l = 0 → ∀ x ∈ l, x.Ok
  | [], _, _, x, hx => absurd hx (by simp)
  | y :: r, p, h, x, hx => by
    unfold ntE at h
    by_cases hy : y.Ok
    · rw [if_pos hy] at h
      split at h
      · omega
      · rcases List.mem_cons.1 hx with rfl | hx
        · exact hy
        · exact ntE_ok r _ h x hx
    · rw [if_neg hy] at h; omega

set_option maxRecDepth 20000 in
set_option maxHeartbeats 4000000 in
theorem checkAll_any {w : World} {A : Option Addr} {l : List Nt} (m : Met) (off : Int) (c : Nat) (h : NotesAt w A l) (hl : l.length ≤ 128) :
    Calls Try.prog 23 #[metV m, .int .i64 off, .slice A l.length c] w fun e w' => e = .returned (.int .i64 (allE m off l)) ∧ Only [] w w' := by
  have H := Lib.hid h
  have HC := Lib.hid (Check_any m)
  have HE := Lib.hid (show allE m off l = if m.chk ≠ 0 then m.chk else if ¬ (0 ≤ off ∧ off ≤ 4398046511104) then 2 else if ntE none l ≠ 0 then ntE none l else lateE off l from rfl)
  obtain ⟨R, hR⟩ : ∃ R, allE m off l = R := ⟨_, rfl⟩
  rw [hR] at HE ⊢
  obtain ⟨r, hr⟩ : ∃ r, m.chk = r := ⟨_, rfl⟩
  rw [hr] at HE HC
  clear h hR hr
  have O0 := Lib.hid ((Only.refl [] w).alloc (metBox m))
  by_cases h0 : r = 0
  · subst h0
    by_cases h1 : 0 ≤ off ∧ off ≤ 4398046511104
    · have H1 := Lib.hid h1
      have hN := fun w2 (o : Only [] w w2) => checkNotes_any c (H.out.only o) hl
      have HN := Lib.hid hN
      obtain ⟨q, hq⟩ : ∃ q, ntE none l = q := ⟨_, rfl⟩
      rw [hq] at HN HE
      have HQ := Lib.hid hq
      clear hN hq h1
      by_cases h2 : q = 0
      · subst h2
        have HOK := Lib.hid (ntE_ok l none HQ.out)
        go_enter Try.func23, Try.ntmps23
        go_wp2_with (first
          | (go_at_call 37; refine (HC.out _).mono ?_; rintro e w1 ⟨rfl, o1⟩; have O1 := Lib.hid (O0.out.trans o1))
          | (go_at_call 27; with_reducible refine (in_yes H1.out _).mono ?_; rintro e w' ⟨rfl, rfl⟩)
          | (go_at_call 28; refine (HN.out _ O1.out).mono ?_; rintro e w2 ⟨rfl, o2⟩; have O2 := Lib.hid (O1.out.trans o2)))
        go_loopw [26] (fun i wr => ∃ j : Nat, j ≤ l.length ∧ i = .int .i64 j ∧ Hid (∀ r (hr : r < l.length), r < j → off + l[r].t ≤ 4398046511104) ∧ Only [] w wr) (fun i _ => l.length - (intOf i).toNat)
        case atStart => exact ⟨0, by omega, rfl, Lib.hid (fun r _ h => absurd h (by omega)), O2.out⟩
        case round =>
          obtain ⟨j, hj, rfl, HA, hO⟩ := hrel
          by_cases hlt : j < l.length
          · have hx1 := (HOK.out l[j] (List.getElem_mem _)).c0
            obtain ⟨b, off', rfl, hb, hcs⟩ := (H.out.only hO) j hlt
            have m0 := hcs 0 (by omega)
            have m1 := hcs 1 (by omega)
            have m2 := hcs 2 (by omega)
            have m3 := hcs 3 (by omega)
            have m4 := hcs 4 (by omega)
            have m5 := hcs 5 (by omega)
            simp only [Nt.vs, List.getElem?_cons_zero, List.getElem?_cons_succ, Nat.add_zero] at m0 m1 m2 m3 m4 m5
            clear hcs
            obtain ⟨x, hx⟩ : ∃ x, l[j] = x := ⟨_, rfl⟩
            rw [hx] at m0 m1 m2 m3 m4 m5 hx1
            have j0 : (0 : Int) ≤ (j : Int) := by omega
            have j1 : (j : Int) < (l.length : Int) := by omega
            have HX := Lib.hid hx
            have off0 := H1.out
            have hw : IntKind.i64.wrap (off + x.t) = off + x.t := IntWalk.i64_in _ (by omega)
            clear hx
            by_cases hc : 4398046511104 < off + x.t
            · go_wp2_with fail
              go_ret
              exact ⟨ret_int (by rw [HE.out, if_neg (by simp), if_neg (by simpa using H1.out), if_neg (by simp), lateE, if_pos ⟨x, by rw [← HX.out]; exact List.getElem_mem _, hc⟩]), hO.alloc _⟩
            · have HA2 := Lib.hid (show ∀ r (hr : r < l.length), r < j + 1 → off + l[r].t ≤ 4398046511104 from fun r hr h => by
                by_cases e : r = j
                · subst e; rw [HX.out]; omega
                · exact HA.out r hr (by omega))
              go_wp2_with fail
              go_roundw
              case rel => exact ⟨j + 1, by omega, by go_num, HA2, hO.alloc _⟩
              case measure => simp [intOf]; omega
          · have hn : ¬ ∃ x ∈ l, 4398046511104 < off + x.t := by
              rintro ⟨x, hx, h⟩
              obtain ⟨r, hr, rfl⟩ := List.mem_iff_getElem.1 hx
              have := HA.out r hr (by omega)
              omega
            have HN2 := Lib.hid hn
            clear hn
            go_wp2_with fail
            go_ret
            exact ⟨ret_int (by rw [HE.out, if_neg (by simp), if_neg (by simpa using H1.out), if_neg (by simp), lateE, if_neg HN2.out]), hO⟩
      · go_enter Try.func23, Try.ntmps23
        go_wp2_with (first
          | (go_at_call 37; refine (HC.out _).mono ?_; rintro e w1 ⟨rfl, o1⟩; have O1 := Lib.hid (O0.out.trans o1))
          | (go_at_call 27; with_reducible refine (in_yes H1.out _).mono ?_; rintro e w' ⟨rfl, rfl⟩)
          | (go_at_call 28; refine (HN.out _ O1.out).mono ?_; rintro e w2 ⟨rfl, o2⟩; have O2 := Lib.hid (O1.out.trans o2)))
        go_ret
        exact ⟨ret_int (by rw [HE.out, if_neg (by simp), if_neg (by simpa using H1.out), if_pos h2]), O2.out⟩
    · have H1 := Lib.hid h1
      clear h1
      go_enter Try.func23, Try.ntmps23
      go_wp2_with (first
        | (go_at_call 37; refine (HC.out _).mono ?_; rintro e w1 ⟨rfl, o1⟩; have O1 := Lib.hid (O0.out.trans o1))
        | (go_at_call 27; with_reducible refine (in_no H1.out _).mono ?_; rintro e w' ⟨rfl, rfl⟩))
      go_ret
      exact ⟨ret_int (by rw [HE.out, if_neg (by simp), if_pos H1.out]), O1.out⟩
  · go_enter Try.func23, Try.ntmps23
    go_wp2_with (first
      | (go_at_call 37; refine (HC.out _).mono ?_; rintro e w1 ⟨rfl, o1⟩; have O1 := Lib.hid (O0.out.trans o1)))
    go_ret
    exact ⟨ret_int (by rw [HE.out, if_pos h0]), O1.out⟩
end Go.Proofs.Ytglkpoiajebleaa
