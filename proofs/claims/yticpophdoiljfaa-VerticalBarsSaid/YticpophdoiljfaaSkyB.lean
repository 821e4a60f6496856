/- DERIVED. Contracts of package skyline, part B: raise, Raise. -/
import Derived.Test.YticpophdoiljfaaSkyA
import Derived.BigRegion
namespace Go.Proofs.Yticpophdoiljfaa
open Go.RowKit

/-- The heights when the columns from a to k - 1 have been raised to v. -/
def raised (h : List Int) (a k : Nat) (v : Int) : List Int := h.mapIdx fun i x => if a ≤ i ∧ i < k then (if x < v then v else x) else x

theorem raised_len (h : List Int) (a k : Nat) (v : Int) : (raised h a k v).length = h.length := by simp [raised]
theorem raised_get (h : List Int) (a k : Nat) (v : Int) (i : Nat) (hi : i < (raised h a k v).length) : (raised h a k v)[i] = (if a ≤ i ∧ i < k then (if h[i]'(by simpa [raised] using hi) < v then v else h[i]'(by simpa [raised] using hi)) else h[i]'(by simpa [raised] using hi)) := by
  simp [raised]
theorem raised_none (h : List Int) (a : Nat) (v : Int) : raised h a a v = h := by
  apply List.ext_getElem (raised_len ..)
  intro i h1 h2
  rw [raised_get, if_neg (by omega)]
theorem raised_at (h : List Int) (a k : Nat) (v : Int) (hk : k < h.length) : (raised h a k v)[k]'(by rw [raised_len]; exact hk) = h[k] := by
  rw [raised_get, if_neg (by omega)]
theorem raised_succ (h : List Int) (a k : Nat) (v : Int) (ha : a ≤ k) (hk : k < h.length) : raised h a (k + 1) v = (raised h a k v).set k (if h[k] < v then v else h[k]) := by
  apply List.ext_getElem (by simp [raised_len])
  intro i h1 h2
  rw [raised_get, List.getElem_set]
  by_cases e : k = i
  · subst e
    rw [if_pos (by omega), if_pos rfl]
  · rw [if_neg e, raised_get]
    by_cases hc : a ≤ i ∧ i < k
    · rw [if_pos hc, if_pos (by omega)]
    · rw [if_neg hc, if_neg (by omega)]

theorem raised_range {h : List Int} {a k : Nat} {v : Int} (hl : ∀ x ∈ h, -1048576 ≤ x ∧ x ≤ 1048576) (hv : -1048576 ≤ v ∧ v ≤ 1048576) : ∀ x ∈ raised h a k v, -1048576 ≤ x ∧ x ≤ 1048576 := by
  intro x hx
  obtain ⟨i, hi, rfl⟩ := List.mem_iff_getElem.1 hx
  rw [raised_get]
  have := hl (h[i]'(by simpa [raised] using hi)) (List.getElem_mem _)
  split
  · split
    · exact hv
    · exact this
  · exact this

set_option maxRecDepth 20000 in
set_option maxHeartbeats 1000000 in
theorem raise_ok {w : World} {s g : Nat} {side : Int} {h : List Int} (hs : Sky w s g side h) (a b : Nat) (v : Int) (hab : a ≤ b) (hb : b < h.length) (hv : -1048576 ≤ v ∧ v ≤ 1048576) :
    Calls Try.prog 56 #[.pointer (some ⟨s, 0, none⟩), .int .i64 a, .int .i64 b, .int .i64 v] w
      fun e w' => e = .returned (.tuple #[]) ∧ Sky w' s g side (raised h a (b + 1) (side * v)) ∧ Only [g] w w' := by
  have hne := hs.ne
  have hfew := hs.few
  go_enter Try.func56, Try.ntmps56
  go_wp2
  go_loopw [8] (fun i wr => ∃ k : Nat, a ≤ k ∧ k ≤ b + 1 ∧ i = .int .i64 k ∧ Blk wr g 3 ((raised h a k (side * v)).map (.int .i64)) ∧ Only [g] w wr) (fun i _ => b + 1 - (intOf i).toNat)
  case atStart => exact ⟨a, by omega, by omega, rfl, by rw [raised_none]; exact hs.row, Only.refl _ _⟩
  case round =>
    obtain ⟨k, hk1, hk2, rfl, hrow, ho⟩ := hrel
    have hhead := hs.head.only ho (by simpa using hne)
    by_cases hlt : k ≤ b
    · have hc0 := hhead.cell 0
      have hc1 := hhead.cell 1
      have hck := hrow.ints k (by rw [raised_len]; omega)
      have hfk := hrow.frozen k
      simp only [List.getD, raised_at h a k (side * v) (by omega), List.getElem?_eq_getElem (show k < (raised h a k (side * v)).length by rw [raised_len]; omega), Option.getD_some] at hck
      simp at hc0 hc1
      have hw : IntKind.i64.wrap (side * v) = side * v := by
        rcases hs.sides with hh | hh <;> rw [hh] <;> exact IntWalk.i64_in _ (by omega)
      have h0 : (0 : Int) ≤ (k : Int) := by omega
      have h1 : (k : Int) < (h.length : Int) := by omega
      go_wp2
      go_still_tail 20, (by kernel_rfl)
      change wpList _ _ _ _ _ wr.drew
      go_wp2
      go_roundw
      case rel =>
        refine ⟨k + 1, by omega, by omega, by go_num, ?_, (ho.setCell (p := ⟨g, k, none⟩) (.inl (by simp)) _).drew⟩
        rw [raised_succ h a k (side * v) hk1 (by omega), List.map_set]
        exact (hrow.set_ k _).drew
      case measure => simp [intOf]; omega
    · go_wp2
      go_end0
      have e : k = b + 1 := by omega
      subst e
      refine ⟨rfl, ⟨?_, hrow, hs.sides, ?_, ?_, ?_⟩, ho⟩
      · rw [raised_len]; exact hhead
      · rw [raised_len]; exact hs.pos
      · rw [raised_len]; exact hs.few
      · exact raised_range hs.low (by rcases hs.sides with hh | hh <;> rw [hh] <;> omega)

/-- What Raise gives. -/
def raiseE (h : List Int) (first last v : Int) : Int := if colErr h.length first last = 0 ∧ okB v = true then 0 else 2
/-- The heights behind Raise. -/
def raiseH (side : Int) (h : List Int) (first last v : Int) : List Int := if colErr h.length first last = 0 ∧ okB v = true then raised h first.toNat (last.toNat + 1) (side * v) else h

theorem raiseH_len (side : Int) (h : List Int) (first last v : Int) : (raiseH side h first last v).length = h.length := by
  unfold raiseH
  split
  · exact raised_len ..
  · rfl

theorem okB_iff {v : Int} : okB v = true ↔ -1048576 ≤ v ∧ v ≤ 1048576 := by simp [okB]

set_option maxRecDepth 20000 in
set_option maxHeartbeats 400000 in
theorem Raise_any {w : World} {s g : Nat} {side : Int} {h : List Int} (hs : Sky w s g side h) (first last v : Int) :
    Calls Try.prog 36 #[.pointer (some ⟨s, 0, none⟩), .int .i64 first, .int .i64 last, .int .i64 v] w
      fun e w' => e = .returned (.int .i64 (raiseE h first last v)) ∧ Sky w' s g side (raiseH side h first last v) ∧ Only [g] w w' := by
  rcases colErr_cases h.length first last with ⟨h0, h1, h2, h3⟩ | h0
  · have H0 := Lib.hid h0
    clear h0
    by_cases hv : okB v = true
    · have HV := Lib.hid hv
      clear hv
      obtain ⟨a, rfl⟩ := Int.eq_ofNat_of_zero_le h1
      obtain ⟨b, rfl⟩ := Int.eq_ofNat_of_zero_le (Int.le_trans h1 h2)
      go_enter Try.func36, Try.ntmps36
      go_wp2_with (first
        | (go_at_call 55; refine (columns_any hs _ _).mono ?_; rintro e w' ⟨rfl, rfl⟩; rw [H0.out])
        | (go_at_call 53; refine (permitted_any _ _).mono ?_; rintro e w' ⟨rfl, rfl⟩; rw [HV.out])
        | (go_at_call 56; refine (raise_ok hs a b v (by omega) (by omega) (okB_iff.1 HV.out)).mono ?_; rintro e w' ⟨rfl, hs', ho⟩))
      go_ret
      refine ⟨ret_int (by rw [raiseE, if_pos ⟨H0.out, HV.out⟩]), ?_, ho⟩
      rw [raiseH, if_pos ⟨H0.out, HV.out⟩]
      simpa using hs'
    · have HV := Lib.hid (show okB v = false by simpa using hv)
      clear hv
      go_enter Try.func36, Try.ntmps36
      go_wp2_with (first
        | (go_at_call 55; refine (columns_any hs _ _).mono ?_; rintro e w' ⟨rfl, rfl⟩; rw [H0.out])
        | (go_at_call 53; refine (permitted_any _ _).mono ?_; rintro e w' ⟨rfl, rfl⟩; rw [HV.out]))
      go_ret
      have hn : ¬ (colErr h.length first last = 0 ∧ okB v = true) := by rw [HV.out]; simp
      exact ⟨ret_int (by rw [raiseE, if_neg hn]), by rw [raiseH, if_neg hn]; exact hs, Only.refl _ _⟩
  · have H0 := Lib.hid h0
    clear h0
    go_enter Try.func36, Try.ntmps36
    go_wp2_with (go_at_call 55; refine (columns_any hs _ _).mono ?_; rintro e w' ⟨rfl, rfl⟩; rw [H0.out])
    go_ret
    have hn : ¬ (colErr h.length first last = 0 ∧ okB v = true) := by rw [H0.out]; simp
    exact ⟨ret_int (by rw [raiseE, if_neg hn]), by rw [raiseH, if_neg hn]; exact hs, Only.refl _ _⟩
end Go.Proofs.Yticpophdoiljfaa
