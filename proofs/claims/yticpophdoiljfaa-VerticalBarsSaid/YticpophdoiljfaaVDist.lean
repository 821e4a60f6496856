/- DERIVED. Contract of Distance. -/
import Derived.Test.YticpophdoiljfaaVp
namespace Go.Proofs.Yticpophdoiljfaa
open Go.RowKit

/-- M is the greatest sum of the two heights of a column. -/
structure DistOK (h h' : List Int) (M : Int) : Prop where
  le : ∀ j (h1 : j < h.length) (h2 : j < h'.length), h[j] + h'[j] ≤ M
  ex : ∃ j, ∃ (h1 : j < h.length) (h2 : j < h'.length), h[j] + h'[j] = M
  low : -2097152 ≤ M ∧ M ≤ 2097152

set_option maxRecDepth 20000 in
set_option maxHeartbeats 400000 in
theorem size_is {x : Int} {b : Bool} (hb : sizeB x = b) (w : World) :
    Calls Try.prog 62 #[.int .i64 x] w fun e w' => e = .returned (.bool b) ∧ w = w' := by
  have := size_any x w
  rw [hb] at this
  exact this

set_option maxRecDepth 20000 in
set_option maxHeartbeats 1000000 in
theorem dist_ok {w : World} {s g s' g' : Nat} {h h' : List Int} (hs : Sky w s g (-1) h) (hs' : Sky w s' g' 1 h') (hl : h.length = h'.length) (gap : Int) (hg : sizeB gap = true) :
    Calls Try.prog 57 #[.pointer (some ⟨s, 0, none⟩), .pointer (some ⟨s', 0, none⟩), .int .i64 gap] w
      fun e w' => (∃ M, e = .returned (.tuple #[.int .i64 (M + gap), .int .i64 0]) ∧ DistOK h h' M) ∧ ∃ n, w' = w.drewN n := by
  have HG := Lib.hid hg
  have hgr := sizeB_iff.1 hg
  have hc0 := hs.side0
  have hc1 := hs.out0
  have hd0 := hs'.side0
  have hd1 := hs'.out0
  have hpos := hs.pos
  have hfew := hs.few
  have hpos' : 0 < h'.length := by omega
  have hcell : ∀ j (hj : j < h.length), w.cell? ⟨g, j, none⟩ = some (.int .i64 h[j]) := fun j hj => by
    rw [hs.row.ints j hj]; simp [List.getD, hj]
  have hcell' : ∀ j (hj : j < h'.length), w.cell? ⟨g', j, none⟩ = some (.int .i64 h'[j]) := fun j hj => by
    rw [hs'.row.ints j hj]; simp [List.getD, hj]
  have hlow : ∀ j (h1 : j < h.length) (h2 : j < h'.length), -2097152 ≤ h[j] + h'[j] ∧ h[j] + h'[j] ≤ 2097152 := fun j h1 h2 => by
    have := hs.low h[j] (List.getElem_mem h1)
    have := hs'.low h'[j] (List.getElem_mem h2)
    omega
  have b2 : ((h.length : Int) != (h.length : Int)) = false := by simp
  rw [← hl] at hd1
  clear hg
  have p0 := hcell 0 hpos
  have p1 := hcell' 0 hpos'
  have p2 : IntKind.i64.wrap (h[0] + h'[0]) = h[0] + h'[0] := IntWalk.i64_in _ (by have := hlow 0 hpos hpos'; omega)
  have z0 : (0 : Int) < (h.length : Int) := by omega
  go_enter Try.func57, Try.ntmps57
  go_wp2
  go_quiet ((go_at_call 62; exact quiet_left (size_is HG.out _)))
  go_wp2
  go_quiet (fail)
  go_wp2
  clear p0 p1 p2
  go_loopw [8, 66] (fun d i wr => ∃ (j n : Nat) (M : Int), j ≤ h.length ∧ i = .int .i64 j ∧ d = .int .i64 M ∧ wr = w.drewN n ∧ (∀ q (h1 : q < h.length) (h2 : q < h'.length), q < j → h[q] + h'[q] ≤ M) ∧ (∃ q, ∃ (h1 : q < h.length) (h2 : q < h'.length), h[q] + h'[q] = M)) (fun _ i _ => h.length - (intOf i).toNat)
  case atStart => exact ⟨0, _, _, Nat.zero_le _, rfl, rfl, rfl, fun q _ _ hq => absurd hq (by omega), 0, hpos, hpos', rfl⟩
  case round =>
    obtain ⟨j, n, M, hj, rfl, rfl, rfl, hle, hex⟩ := hrel
    have hML : -2097152 ≤ M ∧ M ≤ 2097152 := by
      obtain ⟨q, h1, h2, rfl⟩ := hex
      exact hlow q h1 h2
    by_cases hlt : j < h.length
    · have hlt' : j < h'.length := by omega
      have p0 := hcell j hlt
      have p1 := hcell' j hlt'
      have hl2 := hlow j hlt hlt'
      have p2 : IntKind.i64.wrap (h[j] + h'[j]) = h[j] + h'[j] := IntWalk.i64_in _ (by omega)
      obtain ⟨M', hM'⟩ : ∃ M', (if M < h[j] + h'[j] then h[j] + h'[j] else M) = M' := ⟨_, rfl⟩
      have HE := Lib.hid hex
      have HL := Lib.hid hle
      have HM' := Lib.hid hM'
      have j0 : (0 : Int) ≤ (j : Int) := by omega
      have j1 : (j : Int) < (h.length : Int) := by omega
      clear hex hle
      go_wp2
      go_roundw
      case rel =>
        refine ⟨j + 1, _, M', by omega, by go_num, rfl, rfl, fun q h1 h2 hq => ?_, ?_⟩
        · have := HM'.out
          by_cases e : q = j
          · subst e; split at this <;> omega
          · have h3 := HL.out q h1 h2 (by omega)
            split at this <;> omega
        · have := HM'.out
          split at this
          · exact ⟨j, hlt, hlt', this⟩
          · rw [← this]; exact HE.out
      case measure => simp [intOf]; omega
    · have p3 : IntKind.i64.wrap (M + gap) = M + gap := IntWalk.i64_in _ (by omega)
      have j1 : ¬ (j : Int) < (h.length : Int) := by omega
      have HE := Lib.hid hex
      have HL := Lib.hid hle
      clear hex hle
      go_wp2
      go_ret2
      exact ⟨⟨M, rfl, fun q h1 h2 => HL.out q h1 h2 (by omega), HE.out, hML⟩, _, rfl⟩

set_option maxRecDepth 20000 in
set_option maxHeartbeats 1000000 in
theorem dist_size {w : World} {s g s' g' : Nat} {h h' : List Int} (hs : Sky w s g (-1) h) (hs' : Sky w s' g' 1 h') (hl : h.length = h'.length) (gap : Int) (hg : sizeB gap = false) :
    Calls Try.prog 57 #[.pointer (some ⟨s, 0, none⟩), .pointer (some ⟨s', 0, none⟩), .int .i64 gap] w
      fun e w' => e = .returned (.tuple #[.int .i64 0, .int .i64 2]) ∧ ∃ n, w' = w.drewN n := by
  have HG := Lib.hid hg
  have hc0 := hs.side0
  have hc1 := hs.out0
  have hd0 := hs'.side0
  have hd1 := hs'.out0
  have b2 : ((h.length : Int) != (h.length : Int)) = false := by simp
  rw [← hl] at hd1
  clear hg
  go_enter Try.func57, Try.ntmps57
  go_wp2
  go_quiet ((go_at_call 62; exact quiet_left (size_is HG.out _)))
  go_wp2
  go_ret2
  exact ⟨rfl, _, rfl⟩

set_option maxRecDepth 20000 in
set_option maxHeartbeats 1000000 in
theorem dist_kind {w : World} {s g s' g' : Nat} {h h' : List Int} (hs : Sky w s g 1 h) (hs' : Sky w s' g' (-1) h') (gap : Int) :
    Calls Try.prog 57 #[.pointer (some ⟨s, 0, none⟩), .pointer (some ⟨s', 0, none⟩), .int .i64 gap] w
      fun e w' => e = .returned (.tuple #[.int .i64 0, .int .i64 11]) ∧ w = w' := by
  have hc0 := hs.side0
  have hd0 := hs'.side0
  go_enter Try.func57, Try.ntmps57
  go_wp2
  go_ret2
  exact ⟨rfl, rfl⟩
end Go.Proofs.Yticpophdoiljfaa
