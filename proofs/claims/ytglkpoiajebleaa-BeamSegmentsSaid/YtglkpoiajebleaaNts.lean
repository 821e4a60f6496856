/- DERIVED. Contracts of package beam: notes in memory, in, checkNotes. -/
import Derived.Test.YtglkpoiajebleaaPla
namespace Go.Proofs.Ytglkpoiajebleaa
open Go.RowKit

/-- A note. -/
structure Nt where (t len fl st hd cl : Int)
def Nt.vs (x : Nt) : List Value := [.int .i64 x.t, .int .i64 x.len, .int .i64 x.fl, .int .i64 x.st, .int .i64 x.hd, .int .i64 x.cl]
/-- Notes in memory. -/
def NotesAt (w : World) (A : Option Addr) (l : List Nt) : Prop :=
  ∀ i (h : i < l.length), ∃ b off, A = some ⟨b, off, none⟩ ∧ b < w.heap.size ∧ ∀ k (_ : k < 6), w.cell? ⟨b, off + i * 6 + k, none⟩ = (l[i].vs)[k]?
theorem NotesAt.only {w w' : World} {A : Option Addr} {l : List Nt} (h : NotesAt w A l) (o : Only [] w w') : NotesAt w' A l := by
  intro i hi
  obtain ⟨b, off, hA, hb, hc⟩ := h i hi
  have := o.size
  exact ⟨b, off, hA, by omega, fun k hk => (o.cell hb (by simp)).trans (hc k hk)⟩

structure Nt.Ok (x : Nt) : Prop where
  c0 : 0 ≤ x.t ∧ x.t ≤ 4398046511104
  c1 : 1 ≤ x.len ∧ x.len ≤ 4398046511104
  cs : x.t + x.len ≤ 4398046511104
  c2 : 0 ≤ x.fl ∧ x.fl ≤ 6
  c3 : 0 ≤ x.st ∧ x.st ≤ 2
  c4 : -1048576 ≤ x.hd ∧ x.hd ≤ 1048576
  c5 : -1048576 ≤ x.cl ∧ x.cl ≤ 1048576
open Classical in
/-- The first error of notes, the end of the note ahead given. -/
noncomputable def ntE : Option Int → List Nt → Int
  | _, [] => 0
  | p, x :: r => if x.Ok then (if (∃ e, p = some e ∧ x.t < e) then 25 else ntE (some (x.t + x.len)) r) else 2
def prevE (l : List Nt) : Nat → Option Int
  | 0 => none
  | j + 1 => (l[j]?).map fun x => x.t + x.len
open Classical in
theorem ntE_step (l : List Nt) (j : Nat) (h : j < l.length) : ntE (prevE l j) (l.drop j) = if l[j].Ok then (if (∃ e, prevE l j = some e ∧ l[j].t < e) then 25 else ntE (prevE l (j + 1)) (l.drop (j + 1))) else 2 := by
  rw [List.drop_eq_getElem_cons h]
  have e : prevE l (j + 1) = some (l[j].t + l[j].len) := by simp [prevE, h]
  rw [e]
  rfl

theorem in_any (n lo hi : Int) (w : World) :
    Calls Try.prog 27 #[.int .i64 n, .int .i64 lo, .int .i64 hi] w fun e w' => e = .returned (.bool (decide (lo ≤ n ∧ n ≤ hi))) ∧ w = w' := by
  by_cases h1 : lo ≤ n
  · by_cases h2 : n ≤ hi
    · go_enter Try.func27, Try.ntmps27
      go_wp2
      go_ret
      exact ⟨ret_bool (by simp; omega), rfl⟩
    · go_enter Try.func27, Try.ntmps27
      go_wp2
      go_ret
      exact ⟨ret_bool (by simp; omega), rfl⟩
  · go_enter Try.func27, Try.ntmps27
    go_wp2
    go_ret
    exact ⟨ret_bool (by simp; omega), rfl⟩
theorem in_yes {n lo hi : Int} (h : lo ≤ n ∧ n ≤ hi) (w : World) : Calls Try.prog 27 #[.int .i64 n, .int .i64 lo, .int .i64 hi] w fun e w' => e = .returned (.bool true) ∧ w = w' :=
  (in_any n lo hi w).mono fun _ _ ⟨h1, h2⟩ => ⟨by rw [h1, decide_eq_true h], h2⟩
theorem in_no {n lo hi : Int} (h : ¬ (lo ≤ n ∧ n ≤ hi)) (w : World) : Calls Try.prog 27 #[.int .i64 n, .int .i64 lo, .int .i64 hi] w fun e w' => e = .returned (.bool false) ∧ w = w' :=
  (in_any n lo hi w).mono fun _ _ ⟨h1, h2⟩ => ⟨by rw [h1, decide_eq_false h], h2⟩

set_option maxRecDepth 20000 in
set_option maxHeartbeats 8000000 in
theorem checkNotes_any {w : World} {A : Option Addr} {l : List Nt} (c : Nat) (h : NotesAt w A l) (hl : l.length ≤ 128) :
    Calls Try.prog 28 #[.slice A l.length c] w fun e w' => e = .returned (.int .i64 (ntE none l)) ∧ Only [] w w' := by
  have h8 : ¬ 128 < l.length := by omega
  have H := Lib.hid h
  obtain ⟨R, hR⟩ : ∃ R, ntE none l = R := ⟨_, rfl⟩
  have HR := Lib.hid hR
  rw [hR]
  clear h hR
  go_enter Try.func28, Try.ntmps28
  go_wp2_with fail
  go_loopw [10] (fun i wr => ∃ j : Nat, j ≤ l.length ∧ i = .int .i64 j ∧ Hid (ntE (prevE l j) (l.drop j) = R) ∧ Hid (∀ r (h : r < l.length), r < j → l[r].Ok) ∧ Only [] w wr) (fun i _ => l.length - (intOf i).toNat)
  case atStart => exact ⟨0, by omega, rfl, HR, Lib.hid (fun r _ h => absurd h (by omega)), Only.refl _ _⟩
  case round =>
    obtain ⟨j, hj, rfl, HRj, HOK, hO⟩ := hrel
    by_cases hlt : j < l.length
    · have HE := Lib.hid (ntE_step l j hlt)
      obtain ⟨b, off, rfl, hb, hcs⟩ := (H.out.only hO) j hlt
      have m0 := hcs 0 (by omega)
      have m1 := hcs 1 (by omega)
      have m2 := hcs 2 (by omega)
      have m3 := hcs 3 (by omega)
      have m4 := hcs 4 (by omega)
      have m5 := hcs 5 (by omega)
      simp only [Nt.vs, List.getElem?_cons_zero, List.getElem?_cons_succ, Nat.add_zero] at m0 m1 m2 m3 m4 m5
      clear hcs
      obtain ⟨x, hx⟩ : ∃ x, l[j] = x := ⟨_, rfl⟩
      rw [hx] at m0 m1 m2 m3 m4 m5 HE
      have j0 : (0 : Int) ≤ (j : Int) := by omega
      have j1 : (j : Int) < (l.length : Int) := by omega
      have HX := Lib.hid hx
      clear hx
      by_cases c0 : ¬ (0 ≤ x.t ∧ x.t ≤ 4398046511104)
      · have C0 := Lib.hid c0
        clear c0
        go_wp2_with (first | (go_at_call 27; with_reducible refine (in_no C0.out _).mono ?_; rintro e w' ⟨rfl, rfl⟩))
        go_ret
        exact ⟨ret_int (by rw [← HRj.out, HE.out, if_neg (fun h => C0.out h.c0)]), hO.alloc _⟩
      have C0 := Lib.hid (Classical.not_not.1 c0)
      clear c0
      by_cases c1 : ¬ (1 ≤ x.len ∧ x.len ≤ 4398046511104)
      · have C1 := Lib.hid c1
        clear c1
        go_wp2_with (first | (go_at_call 27; with_reducible refine (in_yes C0.out _).mono ?_; rintro e w' ⟨rfl, rfl⟩) | (go_at_call 27; with_reducible refine (in_no C1.out _).mono ?_; rintro e w' ⟨rfl, rfl⟩))
        go_ret
        exact ⟨ret_int (by rw [← HRj.out, HE.out, if_neg (fun h => C1.out h.c1)]), hO.alloc _⟩
      have C1 := Lib.hid (Classical.not_not.1 c1)
      clear c1
      have ks : IntKind.i64.wrap (x.t + x.len) = x.t + x.len := IntWalk.i64_in _ (by have := C0.out; have := C1.out; omega)
      by_cases cs : 4398046511104 < x.t + x.len
      · have Cs := Lib.hid cs
        go_wp2_with (first | (go_at_call 27; with_reducible refine (in_yes C0.out _).mono ?_; rintro e w' ⟨rfl, rfl⟩) | (go_at_call 27; with_reducible refine (in_yes C1.out _).mono ?_; rintro e w' ⟨rfl, rfl⟩))
        go_ret
        exact ⟨ret_int (by rw [← HRj.out, HE.out, if_neg (fun h => by have := h.cs; have := Cs.out; omega)]), hO.alloc _⟩
      have Cs := Lib.hid (show x.t + x.len ≤ 4398046511104 by omega)
      by_cases c2 : ¬ (0 ≤ x.fl ∧ x.fl ≤ 6)
      · have C2 := Lib.hid c2
        clear c2
        go_wp2_with (first | (go_at_call 27; with_reducible refine (in_yes C0.out _).mono ?_; rintro e w' ⟨rfl, rfl⟩) | (go_at_call 27; with_reducible refine (in_yes C1.out _).mono ?_; rintro e w' ⟨rfl, rfl⟩) | (go_at_call 27; with_reducible refine (in_no C2.out _).mono ?_; rintro e w' ⟨rfl, rfl⟩))
        go_ret
        exact ⟨ret_int (by rw [← HRj.out, HE.out, if_neg (fun h => C2.out h.c2)]), hO.alloc _⟩
      have C2 := Lib.hid (Classical.not_not.1 c2)
      clear c2
      by_cases c3 : ¬ (0 ≤ x.st ∧ x.st ≤ 2)
      · have C3 := Lib.hid c3
        clear c3
        go_wp2_with (first | (go_at_call 27; with_reducible refine (in_yes C0.out _).mono ?_; rintro e w' ⟨rfl, rfl⟩) | (go_at_call 27; with_reducible refine (in_yes C1.out _).mono ?_; rintro e w' ⟨rfl, rfl⟩) | (go_at_call 27; with_reducible refine (in_yes C2.out _).mono ?_; rintro e w' ⟨rfl, rfl⟩) | (go_at_call 27; with_reducible refine (in_no C3.out _).mono ?_; rintro e w' ⟨rfl, rfl⟩))
        go_ret
        exact ⟨ret_int (by rw [← HRj.out, HE.out, if_neg (fun h => C3.out h.c3)]), hO.alloc _⟩
      have C3 := Lib.hid (Classical.not_not.1 c3)
      clear c3
      by_cases c4 : ¬ (-1048576 ≤ x.hd ∧ x.hd ≤ 1048576)
      · have C4 := Lib.hid c4
        clear c4
        go_wp2_with (first | (go_at_call 27; with_reducible refine (in_yes C0.out _).mono ?_; rintro e w' ⟨rfl, rfl⟩) | (go_at_call 27; with_reducible refine (in_yes C1.out _).mono ?_; rintro e w' ⟨rfl, rfl⟩) | (go_at_call 27; with_reducible refine (in_yes C2.out _).mono ?_; rintro e w' ⟨rfl, rfl⟩) | (go_at_call 27; with_reducible refine (in_yes C3.out _).mono ?_; rintro e w' ⟨rfl, rfl⟩) | (go_at_call 27; with_reducible refine (in_no C4.out _).mono ?_; rintro e w' ⟨rfl, rfl⟩))
        go_ret
        exact ⟨ret_int (by rw [← HRj.out, HE.out, if_neg (fun h => C4.out h.c4)]), hO.alloc _⟩
      have C4 := Lib.hid (Classical.not_not.1 c4)
      clear c4
      by_cases c5 : ¬ (-1048576 ≤ x.cl ∧ x.cl ≤ 1048576)
      · have C5 := Lib.hid c5
        clear c5
        go_wp2_with (first | (go_at_call 27; with_reducible refine (in_yes C0.out _).mono ?_; rintro e w' ⟨rfl, rfl⟩) | (go_at_call 27; with_reducible refine (in_yes C1.out _).mono ?_; rintro e w' ⟨rfl, rfl⟩) | (go_at_call 27; with_reducible refine (in_yes C2.out _).mono ?_; rintro e w' ⟨rfl, rfl⟩) | (go_at_call 27; with_reducible refine (in_yes C3.out _).mono ?_; rintro e w' ⟨rfl, rfl⟩) | (go_at_call 27; with_reducible refine (in_yes C4.out _).mono ?_; rintro e w' ⟨rfl, rfl⟩) | (go_at_call 27; with_reducible refine (in_no C5.out _).mono ?_; rintro e w' ⟨rfl, rfl⟩))
        go_ret
        exact ⟨ret_int (by rw [← HRj.out, HE.out, if_neg (fun h => C5.out h.c5)]), hO.alloc _⟩
      have C5 := Lib.hid (Classical.not_not.1 c5)
      clear c5
      have HE2 := Lib.hid (by have h := HE.out; rw [if_pos ⟨C0.out, C1.out, Cs.out, C2.out, C3.out, C4.out, C5.out⟩] at h; exact h)
      have HOK2 := Lib.hid (show ∀ r (h : r < l.length), r < j + 1 → l[r].Ok from fun r h hr => by
        by_cases e : r = j
        · subst e; rw [HX.out]; exact ⟨C0.out, C1.out, Cs.out, C2.out, C3.out, C4.out, C5.out⟩
        · exact HOK.out r h (by omega))
      by_cases hj0 : j = 0
      · have HN := Lib.hid (show ntE (prevE l (j + 1)) (l.drop (j + 1)) = R by rw [← HRj.out, HE2.out, if_neg (by subst hj0; simp [prevE])])
        have jn : ¬ (0 : Int) < (j : Int) := by omega
        have jd : decide (0 < j) = false := by simp; omega
        clear hj0
        go_wp2_with (first | (go_at_call 27; with_reducible refine (in_yes C0.out _).mono ?_; rintro e w' ⟨rfl, rfl⟩) | (go_at_call 27; with_reducible refine (in_yes C1.out _).mono ?_; rintro e w' ⟨rfl, rfl⟩) | (go_at_call 27; with_reducible refine (in_yes C2.out _).mono ?_; rintro e w' ⟨rfl, rfl⟩) | (go_at_call 27; with_reducible refine (in_yes C3.out _).mono ?_; rintro e w' ⟨rfl, rfl⟩) | (go_at_call 27; with_reducible refine (in_yes C4.out _).mono ?_; rintro e w' ⟨rfl, rfl⟩) | (go_at_call 27; with_reducible refine (in_yes C5.out _).mono ?_; rintro e w' ⟨rfl, rfl⟩))
        go_quiet (fail)
        go_wp2
        go_roundw
        case rel => exact ⟨j + 1, by omega, by go_num, HN, HOK2, (hO.alloc _).drewN _⟩
        case measure => simp [intOf]; omega
      · obtain ⟨q, hq⟩ : ∃ q, j = q + 1 := ⟨j - 1, by omega⟩
        have hql : q < l.length := by omega
        obtain ⟨b', off', hA', hb', hcs'⟩ := (H.out.only hO) q hql
        simp only [Option.some.injEq, Addr.mk.injEq, and_true] at hA'
        obtain ⟨rfl, rfl⟩ := hA'
        have y0 := hcs' 0 (by omega)
        have y1 := hcs' 1 (by omega)
        simp only [Nt.vs, List.getElem?_cons_zero, List.getElem?_cons_succ, Nat.add_zero] at y0 y1
        have hyk := HOK.out q hql (by omega)
        have HP := Lib.hid (show prevE l j = some (l[q].t + l[q].len) by rw [hq]; simp [prevE, hql])
        generalize l[q] = y at *
        have g1 := hyk.c0
        have g2 := hyk.c1
        have ky : IntKind.i64.wrap (y.t + y.len) = y.t + y.len := IntWalk.i64_in _ (by omega)
        have kj : IntKind.i64.wrap ((j : Int) - 1) = (j : Int) - 1 := IntWalk.i64_in _ (by omega)
        have kn : ((j : Int) - 1).toNat = q := by omega
        have jp : (0 : Int) < (j : Int) := by omega
        have jd : decide (0 < j) = true := by simp; omega
        have ja : (0 : Int) ≤ (j : Int) - 1 := by omega
        have jb : (j : Int) - 1 < (l.length : Int) := by omega
        have HQ := Lib.hid hq
        clear hcs' hyk g1 g2 hq hj0
        by_cases cc : x.t < y.t + y.len
        · have HF := Lib.hid (show 25 = R by rw [← HRj.out, HE2.out, if_pos ⟨_, HP.out, cc⟩])
          go_wp2_with (first | (go_at_call 27; with_reducible refine (in_yes C0.out _).mono ?_; rintro e w' ⟨rfl, rfl⟩) | (go_at_call 27; with_reducible refine (in_yes C1.out _).mono ?_; rintro e w' ⟨rfl, rfl⟩) | (go_at_call 27; with_reducible refine (in_yes C2.out _).mono ?_; rintro e w' ⟨rfl, rfl⟩) | (go_at_call 27; with_reducible refine (in_yes C3.out _).mono ?_; rintro e w' ⟨rfl, rfl⟩) | (go_at_call 27; with_reducible refine (in_yes C4.out _).mono ?_; rintro e w' ⟨rfl, rfl⟩) | (go_at_call 27; with_reducible refine (in_yes C5.out _).mono ?_; rintro e w' ⟨rfl, rfl⟩))
          go_quiet (fail)
          go_wp2
          go_ret
          exact ⟨ret_int HF.out, (hO.alloc _).drewN _⟩
        · have HN := Lib.hid (show ntE (prevE l (j + 1)) (l.drop (j + 1)) = R by
            rw [← HRj.out, HE2.out, if_neg]
            rintro ⟨e, h1, h2⟩
            rw [HP.out] at h1
            obtain rfl := Option.some.inj h1
            exact cc h2)
          go_wp2_with (first | (go_at_call 27; with_reducible refine (in_yes C0.out _).mono ?_; rintro e w' ⟨rfl, rfl⟩) | (go_at_call 27; with_reducible refine (in_yes C1.out _).mono ?_; rintro e w' ⟨rfl, rfl⟩) | (go_at_call 27; with_reducible refine (in_yes C2.out _).mono ?_; rintro e w' ⟨rfl, rfl⟩) | (go_at_call 27; with_reducible refine (in_yes C3.out _).mono ?_; rintro e w' ⟨rfl, rfl⟩) | (go_at_call 27; with_reducible refine (in_yes C4.out _).mono ?_; rintro e w' ⟨rfl, rfl⟩) | (go_at_call 27; with_reducible refine (in_yes C5.out _).mono ?_; rintro e w' ⟨rfl, rfl⟩))
          go_quiet (fail)
          go_wp2
          go_roundw
          case rel => exact ⟨j + 1, by omega, by go_num, HN, HOK2, (hO.alloc _).drewN _⟩
          case measure => simp [intOf]; omega
    · obtain rfl : j = l.length := by omega
      have HZ := Lib.hid (show 0 = R by rw [← HRj.out, List.drop_length]; rfl)
      go_wp2
      go_ret
      exact ⟨ret_int HZ.out, hO⟩
end Go.Proofs.Ytglkpoiajebleaa
