/- DERIVED. Contracts of package beam: Place of proper notes, its callees. -/
import Derived.Test.YtglkpoiajebleaaPlp
import Derived.Test.YtglkpoiajebleaaRis
namespace Go.Proofs.Ytglkpoiajebleaa
open Go.RowKit

set_option maxRecDepth 20000 in
set_option maxHeartbeats 400000 in
theorem max_fn (a b : Int) (w : World) : Calls Try.prog 30 #[.int .i64 a, .int .i64 b] w fun e w' => e = .returned (.int .i64 (far true a b)) ∧ w = w' := by
  go_enter Try.func30, Try.ntmps30
  go_wp2
  go_ret
  exact ⟨ret_int (by simp [far]), rfl⟩
set_option maxRecDepth 20000 in
set_option maxHeartbeats 400000 in
theorem min_fn (a b : Int) (w : World) : Calls Try.prog 31 #[.int .i64 a, .int .i64 b] w fun e w' => e = .returned (.int .i64 (far false a b)) ∧ w = w' := by
  go_enter Try.func31, Try.ntmps31
  go_wp2
  go_ret
  exact ⟨ret_int (by simp [far]), rfl⟩

theorem tdiv2_rng {a M : Int} (h1 : -M ≤ a) (h2 : a ≤ M) : -M ≤ Int.tdiv a 2 ∧ Int.tdiv a 2 ≤ M := by
  rcases Int.le_total 0 a with h | h
  · rw [Int.tdiv_eq_ediv_of_nonneg h]; omega
  · obtain ⟨b, rfl⟩ : ∃ b, a = -b := ⟨-a, by omega⟩
    rw [Int.neg_tdiv, Int.tdiv_eq_ediv_of_nonneg (by omega)]; omega
theorem rise_at {w : World} {A : Option Addr} {l : List Nt} (c : Nat) (h : NotesAt w A l) (hl : l.length ≤ 128) (hn : ntE none l = 0) (F K : Nat) (h1 : F < K) (h2 : K < l.length) (s t : Int)
    (s1 : -128 ≤ s) (s2 : s ≤ 128) (t1 : (ntAt l F).t ≤ t) (t2 : t ≤ (ntAt l K).t) :
    Calls Try.prog 32 #[.slice A l.length c, grpV F K, .int .i64 s, .int .i64 t] w fun e w' => e = .returned (.int .i64 (riseE l F K s t)) ∧ Only [] w w' := by
  have hF : F < l.length := by omega
  have e1 : ntAt l F = l[F] := by simp [ntAt, hF]
  have e2 : ntAt l K = l[K] := by simp [ntAt, h2]
  unfold riseE
  rw [e1] at t1 ⊢
  rw [e2] at t2 ⊢
  have o1 := (ntE_ok l none hn l[F] (List.getElem_mem _)).c0
  have o2 := (ntE_ok l none hn l[K] (List.getElem_mem _)).c0
  have o3 := ntE_mono hn h1 h2
  have o4 := (ntE_ok l none hn l[F] (List.getElem_mem _)).c1
  obtain ⟨a, b⟩ := mul_rng (D := l[K].t - l[F].t) s1 s2 (show 0 ≤ t - l[F].t by omega) (by omega)
  exact rise_any c h hl F K hF h2 s t o1 o2 (by omega) (by omega) (by omega)

/-- What Place has done. -/
def Placed (w : World) (e : Ending) (w' : World) (a b : Int) : Prop := e = .returned (.tuple #[.agg #[.int .i64 a, .int .i64 b], .int .i64 0]) ∧ Only [] w w'
end Go.Proofs.Ytglkpoiajebleaa
