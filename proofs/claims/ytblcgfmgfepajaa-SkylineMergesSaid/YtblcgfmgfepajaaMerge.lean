/- DERIVED. Contract of Merge. -/
import Derived.Test.YtblcgfmgfepajaaClone
import Derived.BigRegion
namespace Go.Proofs.Ytblcgfmgfepajaa
open Go.RowKit

/-- The heights when the first k columns of the other have been merged from column a on. -/
def mergeTo (h h2 : List Int) (a : Nat) : Nat → List Int
  | 0 => h
  | k + 1 => raised (mergeTo h h2 a k) (a + k) (a + k + 1) (h2.getD k 0)
theorem mergeTo_len (h h2 : List Int) (a : Nat) : ∀ k, (mergeTo h h2 a k).length = h.length
  | 0 => rfl
  | k + 1 => by rw [mergeTo, raised_len, mergeTo_len h h2 a k]
theorem mergeTo_range {h h2 : List Int} (a : Nat) (hl : ∀ x ∈ h, -1048576 ≤ x ∧ x ≤ 1048576) (hl2 : ∀ x ∈ h2, -1048576 ≤ x ∧ x ≤ 1048576) : ∀ k, k ≤ h2.length → ∀ x ∈ mergeTo h h2 a k, -1048576 ≤ x ∧ x ≤ 1048576
  | 0, _ => hl
  | k + 1, hk => by
    rw [mergeTo]
    refine raised_range (mergeTo_range a hl hl2 k (by omega)) ?_
    rw [List.getD, List.getElem?_eq_getElem (by omega), Option.getD_some]
    exact hl2 _ (List.getElem_mem _)
theorem mergeTo_step (h h2 : List Int) (a k : Nat) (h1 : a + k < h.length) (hk : k < h2.length) :
    mergeTo h h2 a (k + 1) = (mergeTo h h2 a k).set (a + k) (if (mergeTo h h2 a k)[a + k]'(by rw [mergeTo_len]; exact h1) < h2[k] then h2[k] else (mergeTo h h2 a k)[a + k]'(by rw [mergeTo_len]; exact h1)) := by
  rw [mergeTo, raised_succ _ (a + k) (a + k) _ (Nat.le_refl _) (by rw [mergeTo_len]; exact h1), raised_none]
  simp [List.getD, hk]

set_option maxHeartbeats 1000000 in
theorem merge_kind {w : World} {s g s' g' : Nat} {side side' : Int} {h h' : List Int} (hs : Sky w s g side h) (hs' : Sky w s' g' side' h') (hne : side ≠ side') (x : Int) :
    Calls Try.prog 33 #[.pointer (some ⟨s, 0, none⟩), .pointer (some ⟨s', 0, none⟩), .int .i64 x] w
      fun e w' => e = .returned (.int .i64 11) ∧ ∃ n, w' = w.drewN n := by
  have hc0 := hs.side0
  have hd0 := hs'.side0
  have b1 : (side != side') = true := by simpa using hne
  go_enter Try.func33, Try.ntmps33
  go_wp2
  go_quiet (fail)
  go_wp2
  go_ret
  exact ⟨rfl, _, rfl⟩

set_option maxHeartbeats 1000000 in
theorem merge_range {w : World} {s g s' g' : Nat} {side : Int} {h h' : List Int} (hs : Sky w s g side h) (hs' : Sky w s' g' side h') (x : Int) (hx : x < 0 ∨ (h.length : Int) - (h'.length : Int) < x) :
    Calls Try.prog 33 #[.pointer (some ⟨s, 0, none⟩), .pointer (some ⟨s', 0, none⟩), .int .i64 x] w
      fun e w' => e = .returned (.int .i64 2) ∧ ∃ n, w' = w.drewN n := by
  have hc0 := hs.side0
  have hc1 := hs.out0
  have hd0 := hs'.side0
  have hd1 := hs'.out0
  have f1 := hs.few
  have f2 := hs'.few
  have b1 : (side != side) = false := by simp
  have e1 : IntKind.i64.wrap ((h.length : Int) - (h'.length : Int)) = (h.length : Int) - (h'.length : Int) := IntWalk.i64_in _ (by omega)
  by_cases h0 : x < 0
  · clear hx
    go_enter Try.func33, Try.ntmps33
    go_wp2
    go_quiet (fail)
    go_wp2
    go_quiet (fail)
    go_wp2
    go_ret
    exact ⟨rfl, _, World.drewN_drewN ..⟩
  · have hx' : (h.length : Int) - (h'.length : Int) < x := by omega
    clear hx
    go_enter Try.func33, Try.ntmps33
    go_wp2
    go_quiet (fail)
    go_wp2
    go_quiet (fail)
    go_wp2
    go_ret
    exact ⟨rfl, _, World.drewN_drewN ..⟩

set_option maxRecDepth 20000 in
set_option maxHeartbeats 1000000 in
theorem merge_ok {w : World} {s g s' g' : Nat} {side : Int} {h h' : List Int} (hs : Sky w s g side h) (hs' : Sky w s' g' side h') (a : Nat) (ha : a + h'.length ≤ h.length) :
    Calls Try.prog 33 #[.pointer (some ⟨s, 0, none⟩), .pointer (some ⟨s', 0, none⟩), .int .i64 a] w
      fun e w' => e = .returned (.int .i64 0) ∧ Sky w' s g side (mergeTo h h' a h'.length) ∧ Only [g] w w' := by
  have hc0 := hs.side0
  have hc1 := hs.out0
  have hd0 := hs'.side0
  have hd1 := hs'.out0
  have f1 := hs.few
  have f2 := hs'.few
  have f3 := hs'.pos
  have hne := hs.ne
  have lg := hs.row.lt
  have b1 : (side != side) = false := by simp
  have e1 : IntKind.i64.wrap ((h.length : Int) - (h'.length : Int)) = (h.length : Int) - (h'.length : Int) := IntWalk.i64_in _ (by omega)
  have e2 : ¬ (h.length : Int) - (h'.length : Int) < (a : Int) := by omega
  have e3 : ¬ (a : Int) < 0 := by omega
  go_enter Try.func33, Try.ntmps33
  go_wp2
  go_quiet (fail)
  go_wp2
  go_quiet (fail)
  go_wp2_with (go_at_call 43; refine (sclone_any g' h'.length h' hs'.pos hs'.few (fun i hi => (hs'.drewN _).gky.at_ i hi)).mono ?_; rintro e w3 ⟨k, cap', sp', rfl, hk, hcap, hb3, ho3⟩)
  have ho3' : Only [] w w3 := ((Only.refl [] w).drewN _).trans ho3
  have S3 := hs.only ho3' (by simp) (by simp)
  have hk' : w.heap.size ≤ k := hk
  clear hc0 hc1 hd0 hd1 ho3 hk e1 e2 e3
  go_loopw [50] (fun i wr => ∃ j : Nat, j ≤ h'.length ∧ i = .int .i64 j ∧ Blk wr g 3 ((mergeTo h h' a j).map (.int .i64)) ∧ Only [g] w3 wr) (fun i _ => h'.length - (intOf i).toNat)
  case atStart => exact ⟨0, Nat.zero_le _, rfl, S3.row, Only.refl _ _⟩
  case round =>
    obtain ⟨j, hj, rfl, hrow, ho⟩ := hrel
    have hhead := S3.head.only ho (by simpa using hne)
    by_cases hlt : j < h'.length
    · have q0 : wr.cell? ⟨s, 1, none⟩ = some (.slice (some ⟨g, 0, none⟩) h.length h.length) := by rw [hhead.cell 1]; rfl
      have q1 : wr.cell? ⟨k, j, none⟩ = some (.int .i64 h'[j]) := by
        rw [(hb3.only ho (by simp; omega)).intsS j hlt]; simp [List.getD, hlt]
      have hl2 : a + j < (mergeTo h h' a j).length := by rw [mergeTo_len]; omega
      have q2 : wr.cell? ⟨g, a + j, none⟩ = some (.int .i64 (mergeTo h h' a j)[a + j]) := by
        rw [hrow.ints (a + j) hl2]; simp [List.getD, hl2]
      have q3 := hrow.frozen (a + j)
      have e4 : IntKind.i64.wrap ((a : Int) + (j : Int)) = (a : Int) + (j : Int) := IntWalk.i64_in _ (by omega)
      have e5 : (0 : Int) ≤ (a : Int) + (j : Int) := by omega
      have e6 : (a : Int) + (j : Int) < (h.length : Int) := by omega
      have e7 : ((a : Int) + (j : Int)).toNat = a + j := by omega
      have j0 : (0 : Int) ≤ (j : Int) := by omega
      have j1 : (j : Int) < (h'.length : Int) := by omega
      have HST := Lib.hid (mergeTo_step h h' a j (by omega) hlt)
      generalize (mergeTo h h' a j)[a + j] = y at q2 HST
      obtain ⟨v, hv⟩ : ∃ v, (if y < h'[j] then h'[j] else y) = v := ⟨_, rfl⟩
      have HST2 := Lib.hid (HST.out.trans (by rw [hv]))
      clear hhead hb3 HST

      go_wp2
      go_still_tail 19, (by kernel_rfl)
      change wpList _ _ _ _ _ wr.drew
      go_wp2
      go_roundw
      case rel =>
        refine ⟨j + 1, by omega, by go_num, ?_, (ho.setCell (p := ⟨g, a + j, none⟩) (.inl (by simp)) _).drew⟩
        rw [HST2.out, List.map_set]
        exact (hrow.set_ (a + j) _).drew
      case measure => simp [intOf]; omega
    · obtain rfl : j = h'.length := by omega
      have j1 : ¬ (h'.length : Int) < (h'.length : Int) := by omega
      go_wp2
      go_ret
      refine ⟨rfl, ⟨?_, hrow, hs.sides, ?_, ?_, ?_⟩, (ho3'.more (by simp)).trans ho⟩
      · rw [mergeTo_len]; exact hhead
      · rw [mergeTo_len]; exact hs.pos
      · rw [mergeTo_len]; exact hs.few
      · exact mergeTo_range a hs.low hs'.low _ (Nat.le_refl _)
end Go.Proofs.Ytblcgfmgfepajaa
