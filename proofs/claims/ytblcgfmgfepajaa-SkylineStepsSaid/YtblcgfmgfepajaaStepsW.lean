/- DERIVED. Contract of Steps: the walk. -/
import Derived.Test.YtblcgfmgfepajaaSteps
import Derived.Laws.OwnMore
import Derived.Below
import Derived.OneCell
namespace Go.Proofs.Ytblcgfmgfepajaa
open Go.RowKit

theorem step_info : (Try.prog.info? 58).map (fun i => (i.zero, i.size, i.bytes)) = some (some (.agg #[.int .i64 0, .int .i64 0, .int .i64 0]), 3, 24) := by kernel_rfl

/-- What Steps gives. -/
def Stepped (w0 : World) (side : Int) (h : List Int) (e : Ending) (w' : World) : Prop :=
  ∃ (g cap : Nat) (rs : List Run), e = .returned (.slice (some ⟨g, 0, none⟩) rs.length cap) ∧ w'.ownsRow w0.heap.size 58 3 (.slice (some ⟨g, 0, none⟩) rs.length cap) rs.length (runCells side rs) ∧
    Runs h h.length rs ∧ Only [] w0 w'

theorem Runs.length_le {h : List Int} {k : Nat} {rs : List Run} (hr : Runs h k rs) (j : Nat) (hj : j < rs.length) : j ≤ (rs[j]).a := by
  induction j with
  | zero => omega
  | succ j ih =>
    have h1 := hr.first (j + 1) hj
    rw [dif_pos (by omega)] at h1
    have h2 := ih (by omega)
    have h3 := hr.le j (by omega)
    simp only [Nat.add_sub_cancel] at h1
    omega
theorem Runs.few {h : List Int} {k : Nat} {rs : List Run} (hr : Runs h k rs) : rs.length ≤ k := by
  rcases Nat.eq_zero_or_pos rs.length with h0 | h0
  · omega
  · have h1 := hr.length_le (rs.length - 1) (by omega)
    have h2 := hr.le (rs.length - 1) (by omega)
    omega
theorem Runs.none_ {h : List Int} {k : Nat} {rs : List Run} (hr : Runs h k rs) (h0 : 0 < k) : 0 < rs.length := by
  have := hr.last
  split at this
  · assumption
  · omega

theorem runCells_set (side : Int) (rs : List Run) (r : Run) (k : Nat) : (runCells side (rs ++ [r])).set (rs.length * 3 + 1) (.int .i64 k) = runCells side (rs ++ [⟨r.a, k, r.x⟩]) := by
  rw [runCells_snoc, runCells_snoc, List.set_append_right _ _ (by rw [runCells_len]; omega), runCells_len]
  rw [show rs.length * 3 + 1 - rs.length * 3 = 1 by omega]
  rfl

set_option maxHeartbeats 2000000 in
theorem steps_any {w : World} {s g : Nat} {side : Int} {h : List Int} (hs : Sky w s g side h) :
    Calls Try.prog 29 #[.pointer (some ⟨s, 0, none⟩)] w fun e w' => Stepped w side h e w' := by
  obtain ⟨i0, hi0, hz0, hz1, hz2⟩ := info_parts step_info
  have hc0 := hs.side0
  have hc1 := hs.out0
  have hfew := hs.few
  have hpos := hs.pos
  have ls := hs.head.lt
  have lg := hs.row.lt
  go_enter Try.func29, Try.ntmps29
  go_wp2
  go_loopw [3, 15] (fun v i wr => ∃ (j : Nat) (rs : List Run), j ≤ h.length ∧ i = .int .i64 j ∧ wr.ownsRow w.heap.size 58 3 v rs.length (runCells side rs) ∧ Runs h j rs ∧ Only [] w wr) (fun _ i _ => h.length - (intOf i).toNat)
  case atStart => exact ⟨0, [], Nat.zero_le _, rfl, World.ownsRow_nil _ _ _ _, Runs.nil _, Only.refl _ _⟩
  case round =>
    obtain ⟨j, rs, hj, rfl, hown, hr, ho⟩ := hrel
    by_cases hlt : j < h.length
    · have q0 := (ho.cell (p := ⟨s, 0, none⟩) ls (by simp)).trans hc0
      have q1 := (ho.cell (p := ⟨s, 1, none⟩) ls (by simp)).trans hc1
      have q2 : wr.cell? ⟨g, j, none⟩ = some (.int .i64 h[j]) := by
        rw [ho.cell (p := ⟨g, j, none⟩) lg (by simp), hs.row.ints j hlt]
        simp [List.getD, hlt]
      have b1 := hs.low h[j] (List.getElem_mem hlt)
      have ws := mul_side hs.sides (x := h[j]) (by omega)
      have j0 : (0 : Int) ≤ (j : Int) := by omega
      have j1 : (j : Int) < (h.length : Int) := by omega
      clear hc0 hc1
      rcases List.eq_nil_or_concat rs with rfl | ⟨rs, r, rfl⟩
      · rcases hown.2 with ⟨rfl, _⟩ | ⟨gg, cap, cur, rfl, _⟩
        all_goals
          go_wp2
          go_quiet (fail)
          go_wp2_with (at_builtin; refine wpList_append_lies _ rfl _ _ _ rfl w.heap.size 58 i0 _ 3 24 Try.underlying55 hi0 hz0 hz1 hz2 rfl (by omega) _ 0 (runCells side []) rfl ((show (wr.drewN nq).ownsRow w.heap.size 58 3 _ 0 (runCells side []) from hown).alloc _) ⟨wr.heap.size, 0, none⟩ 1 1 (Run.cells side ⟨j, j, h[j]⟩) rfl rfl (World.news_of_block (cs := #[.int .i64 j, .int .i64 j, .int .i64 (side * h[j])]) (t := 58) (fr := (0, 0)) (heap_alloc_new (wr.drewN nq) _)) (by simp [Run.cells, Value.oneCell']) (by omega) (by simp only [maxLen]; omega) (by omega) (by have := ho.size; simp; omega) (wr.heap.size + 1) (by simp) ?_; intro gg2 cap2 w2 hown1 hgrow hat hlt2)
          go_roundw
          case rel => exact ⟨j + 1, [] ++ [⟨j, j, h[j]⟩], by omega, by go_num, by rw [runCells_snoc]; simpa using hown1, hr.grow hlt (fun h0 => absurd h0 (by simp)), ((ho.drewN nq).alloc _).grown hgrow fun k hk => .inr (hown.lt k hk).1⟩
          case measure => simp [intOf]; omega
      · rw [List.concat_eq_append] at hown hr
        obtain ⟨gg, cap, rfl⟩ : ∃ gg cap, u3 = .slice (some ⟨gg, 0, none⟩) (rs.length + 1) cap := by
          have := hown.2
          simp only [List.length_append, List.length_cons, List.length_nil] at this
          rcases this with ⟨_, h0⟩ | ⟨gg, cap, cur, h0, _⟩
          · omega
          · exact ⟨gg, cap, h0⟩
        have hown2 := hown
        simp only [List.length_append, List.length_cons, List.length_nil, Nat.zero_add] at hown2
        have x2 : wr.cell? ⟨gg, rs.length * 3 + 2, none⟩ = some (.int .i64 (side * r.x)) := by
          rw [hown2.cellAt _ (by omega), runCells_get side _ rs.length (by simp) 2 (by omega)]
          simp [Run.cells]
        have x1 : wr.cell? ⟨gg, rs.length * 3 + 1, none⟩ = some (.int .i64 r.b) := by
          rw [hown2.cellAt _ (by omega), runCells_get side _ rs.length (by simp) 1 (by omega)]
          simp [Run.cells]
        have fz := hown2.frozenAt (rs.length * 3 + 1)
        have hrf := hr.few
        simp only [List.length_append, List.length_cons, List.length_nil, Nat.zero_add] at hrf
        have k0 : (0 : Int) < ((rs.length + 1 : Nat) : Int) := by omega
        have k1 : IntKind.i64.wrap (((rs.length + 1 : Nat) : Int) - 1) = (rs.length : Int) := by rw [IntWalk.i64_in _ (by omega)]; omega
        have k2 : (0 : Int) ≤ (rs.length : Int) := by omega
        have k3 : (rs.length : Int) < ((rs.length + 1 : Nat) : Int) := by omega
        by_cases hx : side * r.x = side * h[j]
        · have hx1 : (side * r.x == side * h[j]) = true := by simpa using hx
          have hx2 : r.x = h[j] := by rcases hs.sides with hh | hh <;> rw [hh] at hx <;> omega
          go_wp2
          go_quiet (fail)
          go_wp2
          go_roundw
          case rel =>
            refine ⟨j + 1, rs ++ [⟨r.a, j, r.x⟩], by omega, by go_num, ?_, hr.stretch hlt hx2, (ho.drewN nq).setCell (.inr ?_) _⟩
            · have hst := (World.ownsRow.stored (w := wr.drewN nq) hown2 (rs.length * 3 + 1) (.int .i64 j)).1
              rw [runCells_set] at hst
              simpa using hst
            · exact (hown2.lt gg rfl).1
          case measure => simp [intOf]; omega
        · have hx1 : (side * r.x == side * h[j]) = false := by simpa using hx
          go_wp2
          go_quiet (fail)
          go_wp2_with (at_builtin; refine wpList_append_lies _ rfl _ _ _ rfl w.heap.size 58 i0 _ 3 24 Try.underlying55 hi0 hz0 hz1 hz2 rfl (by omega) _ (rs.length + 1) (runCells side (rs ++ [r])) rfl ((show (wr.drewN nq).ownsRow w.heap.size 58 3 _ (rs.length + 1) (runCells side (rs ++ [r])) from hown2).alloc _) ⟨wr.heap.size, 0, none⟩ 1 1 (Run.cells side ⟨j, j, h[j]⟩) rfl rfl (World.news_of_block (cs := #[.int .i64 j, .int .i64 j, .int .i64 (side * h[j])]) (t := 58) (fr := (0, 0)) (heap_alloc_new (wr.drewN nq) _)) (by simp [Run.cells, Value.oneCell']) (by omega) (by simp only [maxLen]; omega) (by omega) (by have := ho.size; simp; omega) (wr.heap.size + 1) (by simp) ?_; intro gg2 cap2 w2 hown1 hgrow hat hlt2)
          go_roundw
          case rel => exact ⟨j + 1, (rs ++ [r]) ++ [⟨j, j, h[j]⟩], by omega, by go_num, by rw [runCells_snoc]; simpa using hown1, hr.grow hlt (fun _ => by simp; intro e; exact hx (by rw [e])), ((ho.drewN nq).alloc _).grown hgrow fun k hk => .inr (hown2.lt k hk).1⟩
          case measure => simp [intOf]; omega
    · obtain rfl : j = h.length := by omega
      go_wp2
      go_ret
      obtain ⟨gg, cap, rfl⟩ : ∃ gg cap, u3 = .slice (some ⟨gg, 0, none⟩) rs.length cap := by
        rcases hown.2 with ⟨_, h0⟩ | ⟨gg, cap, cur, h0, _⟩
        · have := hr.none_ hpos
          omega
        · exact ⟨gg, cap, h0⟩
      exact ⟨gg, cap, rs, rfl, hown, hr, ho⟩
end Go.Proofs.Ytblcgfmgfepajaa
