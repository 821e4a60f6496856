/- DERIVED. The statements of chapter 26: known. -/
import Derived.Test.YtglkpoiajebleaaPlu
import Derived.Test.YtglkpoiajebleaaGps
namespace Go.Proofs.Ytglkpoiajebleaa
open Go.RowKit

theorem own_groups {w : World} {base n : Nat} {v : Value} {l : List (Nat × Nat)} (h : w.ownsRow base 40 2 v n (gCells l)) :
    ∃ A c, v = .slice A n c ∧ l.length = n ∧ n ≤ c ∧ ∀ i (hi : i < l.length), ∃ D, A = some ⟨D, 0, none⟩ ∧ base ≤ D ∧ D < w.heap.size ∧ w.cell? ⟨D, i * 2, none⟩ = some (.int .i64 l[i].1) ∧ w.cell? ⟨D, i * 2 + 1, none⟩ = some (.int .i64 l[i].2) := by
  have hl : l.length = n := by have := h.1; rw [gCells_len] at this; omega
  have hget : ∀ (l : List (Nat × Nat)) i (hi : i < l.length), (gCells l)[i * 2]? = some (.int .i64 l[i].1) ∧ (gCells l)[i * 2 + 1]? = some (.int .i64 l[i].2) := by
    intro l
    induction l with
    | nil => intro i hi; simp at hi
    | cons p r ih =>
      intro i hi
      cases i with
      | zero => simp [gCells]
      | succ i =>
        have := ih i (by simpa using hi)
        rw [show (i + 1) * 2 = i * 2 + 1 + 1 by omega]
        simpa [gCells] using this
  rcases h.2 with ⟨hv, hn⟩ | ⟨g, cap, cur, rfl, hb, hg, h1, h2, h3, hr⟩
  · refine ⟨none, 0, by rw [hv, hn], hl, by omega, fun i hi => absurd hi (by omega)⟩
  · refine ⟨_, _, rfl, hl, h1, fun i hi => ⟨g, rfl, hb, (h.lt g rfl).2, ?_, ?_⟩⟩
    · rw [h.cellAt _ (by omega)]; exact (hget l i hi).1
    · rw [h.cellAt _ (by omega)]; exact (hget l i hi).2

def kM : Met := ⟨4, 4, 0, 0, 0, 0, 0, 0⟩
def kA : Nt := ⟨0, 10, 1, 0, 0, -900⟩
def kB : Nt := ⟨10, 10, 1, 0, 64, -900⟩
theorem kM_chk : kM.chk = 0 := by kernel_rfl
theorem kM_grp : GrpC kM [1, 1, 1, 1] := fun w => (groups_z kM (Met.ok_of kM_chk) (by kernel_rfl) w).mono fun e w' ⟨g, he, hg, hr, ho⟩ => ⟨g, 4, he, hg, hr, ho⟩
theorem kA_ok : kA.Ok := by constructor <;> decide
theorem kB_ok : kB.Ok := by constructor <;> decide
theorem k_nt : ntE none [kA, kB] = 0 := by
  rw [ntE, if_pos kA_ok, if_neg (by rintro ⟨e, h, -⟩; cases h), ntE, if_pos kB_ok, if_neg (by rintro ⟨e, h, h2⟩; injection h with h; subst h; exact absurd h2 (by decide)), ntE]
theorem k_all : allE kM 0 [kA, kB] = 0 := by
  unfold allE
  rw [if_neg (by rw [kM_chk]; simp), if_neg (by simp), if_neg (by rw [k_nt]; simp), lateE, if_neg]
  rintro ⟨x, hx, h⟩
  simp only [List.mem_cons, List.not_mem_nil, or_false] at hx
  rcases hx with rfl | rfl <;> exact absurd h (by decide)
theorem k_ge : gE [kA, kB] (0 : Nat) (1 : Nat) = 0 := by
  unfold gE
  rw [if_neg (by simp), if_neg]
  rintro ⟨i, hi, -, -, h⟩
  simp only [List.length_cons, List.length_nil] at hi
  match i, hi, h with
  | 0, _, h => exact absurd h (by simp [kA])
  | 1, _, h => exact absurd h (by simp [kB])
theorem k_groups : groupsE kM [1, 1, 1, 1] 0 [kA, kB] = [(0, 1)] := by kernel_rfl
theorem k_from : fromE true [kA, kB] 0 1 = 192 := by kernel_rfl
theorem k_slope : slopeE true [kA, kB] 0 1 = 32 := by kernel_rfl
theorem k_at {w : World} {B : Nat} (h : Blk w B 42 [.int .i64 0, .int .i64 10, .int .i64 1, .int .i64 0, .int .i64 0, .int .i64 (-900), .int .i64 10, .int .i64 10, .int .i64 1, .int .i64 0, .int .i64 64, .int .i64 (-900)]) :
    NotesAt w (some ⟨B, 0, none⟩) [kA, kB] := by
  intro i hi
  refine ⟨B, 0, rfl, h.lt, fun k hk => ?_⟩
  simp only [List.length_cons, List.length_nil] at hi
  rw [h.cell]
  match i, hi, k, hk with
  | 0, _, 0, _ => rfl
  | 0, _, 1, _ => rfl
  | 0, _, 2, _ => rfl
  | 0, _, 3, _ => rfl
  | 0, _, 4, _ => rfl
  | 0, _, 5, _ => rfl
  | 1, _, 0, _ => rfl
  | 1, _, 1, _ => rfl
  | 1, _, 2, _ => rfl
  | 1, _, 3, _ => rfl
  | 1, _, 4, _ => rfl
  | 1, _, 5, _ => rfl

set_option maxRecDepth 20000 in
set_option maxHeartbeats 1000000 in
theorem known_any (w : World) : Calls Try.prog 9 #[] w fun e w' => e = .returned (.bool true) ∧ Only [] w w' := by
  have BN := Lib.hid (Blk.new w 42 [.int .i64 0, .int .i64 10, .int .i64 1, .int .i64 0, .int .i64 0, .int .i64 (-900), .int .i64 10, .int .i64 10, .int .i64 1, .int .i64 0, .int .i64 64, .int .i64 (-900)])
  have O0 := Lib.hid ((Only.refl [] w).alloc (.cells #[.int .i64 0, .int .i64 10, .int .i64 1, .int .i64 0, .int .i64 0, .int .i64 (-900), .int .i64 10, .int .i64 10, .int .i64 1, .int .i64 0, .int .i64 64, .int .i64 (-900)] 42))
  obtain ⟨W0, hW0⟩ : ∃ W0, w.alloc (.cells #[.int .i64 0, .int .i64 10, .int .i64 1, .int .i64 0, .int .i64 0, .int .i64 (-900), .int .i64 10, .int .i64 10, .int .i64 1, .int .i64 0, .int .i64 64, .int .i64 (-900)] 42) = W0 := ⟨_, rfl⟩
  rw [hW0] at BN O0
  have HG : Hid (Calls Try.prog 11 #[metV kM, .int .i64 0, .slice (some ⟨w.heap.size, 0, none⟩) 2 2] W0 fun e w' => ∃ D cap, e = .returned (.tuple #[.slice (some ⟨D, 0, none⟩) 1 cap, .int .i64 0]) ∧ w'.cell? ⟨D, 0, none⟩ = some (.int .i64 0) ∧ w'.cell? ⟨D, 1, none⟩ = some (.int .i64 1) ∧ D < w'.heap.size ∧ Only [] W0 w') := Lib.hid (by
    refine (Groups_any (l := [kA, kB]) kM [1, 1, 1, 1] kM_grp (by decide) (by decide) 0 2 (k_at BN.out) (by decide) k_all).mono ?_
    rintro e w' ⟨v, rfl, hown, ho⟩
    rw [k_groups] at hown
    obtain ⟨A, c, rfl, -, -, hc⟩ := own_groups hown
    obtain ⟨D, rfl, -, hD, h0, h1⟩ := hc 0 (by decide)
    exact ⟨D, c, rfl, h0, h1, hD, ho⟩)
  have HP := Lib.hid fun w2 (o : Only [] W0 w2) => Place_true (l := [kA, kB]) 2 ((k_at BN.out).only o) (by decide) (by decide) k_nt 0 1 (by decide) (by decide) k_ge
  rw [k_from, k_slope] at HP
  clear BN
  go_enter Try.func9, Try.ntmps9
  go_wp2_with (first
    | (go_at_call 11; refine HG.out.mono ?_; rintro e w1 ⟨D, cap, rfl, h0, h1, hD, o1⟩)
    | (go_at_call 16; have O1 := Lib.hid o1; refine (HP.out _ O1.out).mono ?_; rintro e w2 ⟨rfl, o2⟩; have o3 := o2.alloc (.cells #[.int .i64 192, .int .i64 224] 54); have g0 := (o3.cell (p := ⟨D, 0, none⟩) hD (by simp)).trans h0; have g1 := (o3.cell (p := ⟨D, 1, none⟩) hD (by simp)).trans h1))
  go_ret
  exact ⟨rfl, (O0.out.trans o1).trans o3⟩
end Go.Proofs.Ytglkpoiajebleaa
