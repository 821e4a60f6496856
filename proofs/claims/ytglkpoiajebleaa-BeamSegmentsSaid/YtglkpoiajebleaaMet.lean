/- DERIVED. Contracts of package metre: unit, length, Check. -/
import Derived.Test.YtglkpoiajebleaaRep
import Derived.Test.YtglkpoiajebleaaQt
import Derived.ChangeKeysEq
import Derived.Laws.StructEq
namespace Go.Proofs.Ytglkpoiajebleaa
open Go.RowKit

/-- A metre. -/
structure Met where (c u g0 g1 g2 g3 g4 g5 : Int)
abbrev metV (m : Met) : Value := .agg #[.int .i64 m.c, .int .i64 m.u, .int .i64 m.g0, .int .i64 m.g1, .int .i64 m.g2, .int .i64 m.g3, .int .i64 m.g4, .int .i64 m.g5]
abbrev metL (m : Met) : List Value := [.int .i64 m.c, .int .i64 m.u, .int .i64 m.g0, .int .i64 m.g1, .int .i64 m.g2, .int .i64 m.g3, .int .i64 m.g4, .int .i64 m.g5]
abbrev metBox (m : Met) : Obj := .cells #[.int .i64 m.c, .int .i64 m.u, .int .i64 m.g0, .int .i64 m.g1, .int .i64 m.g2, .int .i64 m.g3, .int .i64 m.g4, .int .i64 m.g5] 36
def Met.gs (m : Met) : List Int := [m.g0, m.g1, m.g2, m.g3, m.g4, m.g5]
def Met.z (m : Met) : Bool := m.g0 == 0 && (m.g1 == 0 && (m.g2 == 0 && (m.g3 == 0 && (m.g4 == 0 && m.g5 == 0))))
def Met.un (m : Met) : Int := 1935360 / m.u
def Met.len (m : Met) : Int := m.c * m.un

theorem eq_gs (w : World) (a b c d e f : Int) : (Op.equalIn 10000 34 (.agg #[.int .i64 a, .int .i64 b, .int .i64 c, .int .i64 d, .int .i64 e, .int .i64 f]) (.agg #[.int .i64 0, .int .i64 0, .int .i64 0, .int .i64 0, .int .i64 0, .int .i64 0])).run Try.prog w
    = .ok (a == 0 && (b == 0 && (c == 0 && (d == 0 && (e == 0 && f == 0))))) w := by
  rw [run_equalIn_array w 9999 (n := 6) (e := 3) (i := (Try.prog.info? 3).getD default) _ _ (by kernel_rfl) (by kernel_rfl)]
  have c1 : Try.prog.cellsOf 3 = 1 := by kernel_rfl
  rw [c1, show List.range 6 = [0, 1, 2, 3, 4, 5] from rfl]
  simp only [Op.eqItems]
  have p0 : ∀ a b c d e f : Int, (part 3 #[Value.int .i64 a, .int .i64 b, .int .i64 c, .int .i64 d, .int .i64 e, .int .i64 f] 0).run Try.prog w = .ok (.int .i64 a) w := fun a b c d e f => by go_simp
  have p1 : ∀ a b c d e f : Int, (part 3 #[Value.int .i64 a, .int .i64 b, .int .i64 c, .int .i64 d, .int .i64 e, .int .i64 f] 1).run Try.prog w = .ok (.int .i64 b) w := fun a b c d e f => by go_simp
  have p2 : ∀ a b c d e f : Int, (part 3 #[Value.int .i64 a, .int .i64 b, .int .i64 c, .int .i64 d, .int .i64 e, .int .i64 f] 2).run Try.prog w = .ok (.int .i64 c) w := fun a b c d e f => by go_simp
  have p3 : ∀ a b c d e f : Int, (part 3 #[Value.int .i64 a, .int .i64 b, .int .i64 c, .int .i64 d, .int .i64 e, .int .i64 f] 3).run Try.prog w = .ok (.int .i64 d) w := fun a b c d e f => by go_simp
  have p4 : ∀ a b c d e f : Int, (part 3 #[Value.int .i64 a, .int .i64 b, .int .i64 c, .int .i64 d, .int .i64 e, .int .i64 f] 4).run Try.prog w = .ok (.int .i64 e) w := fun a b c d e f => by go_simp
  have p5 : ∀ a b c d e f : Int, (part 3 #[Value.int .i64 a, .int .i64 b, .int .i64 c, .int .i64 d, .int .i64 e, .int .i64 f] 5).run Try.prog w = .ok (.int .i64 f) w := fun a b c d e f => by go_simp
  have e0 : ∀ x y : Int, (Op.equalIn 9999 3 (.int .i64 x) (.int .i64 y)).run Try.prog w = .ok (x == y) w := fun x y => run_equalIn_int w 9998 3 .i64 .i64 x y (by kernel_rfl)
  simp only [Nat.mul_one, Sem.run_bind, p0, p1, p2, p3, p4, p5, e0, Result.andThen_ok, Sem.run_ite, Sem.run_pure]
  cases a == 0 <;> cases b == 0 <;> cases c == 0 <;> cases d == 0 <;> cases e == 0 <;> cases f == 0 <;> simp
theorem guard_gs (o : BinOp) (w : World) (x y : Operand) (xs ys : Array Value) : (eqGuard o 34 x y (.agg xs) (.agg ys)).run Try.prog w = .ok () w :=
  run_eqGuard_agg w o _ x y xs ys (by kernel_rfl)
attribute [go_sem] eq_gs guard_gs

theorem un_rng {u : Int} (h1 : 1 ≤ u) (h2 : u ≤ 64) : 30240 ≤ 1935360 / u ∧ 1935360 / u ≤ 1935360 := by
  constructor
  · exact (Int.le_ediv_iff_mul_le (by omega)).2 (by omega)
  · exact Int.ediv_le_self _ (by omega)
theorem len_rng {c n : Int} (h1 : 1 ≤ c) (h2 : c ≤ 64) (h3 : 30240 ≤ n) (h4 : n ≤ 1935360) : 30240 ≤ c * n ∧ c * n ≤ 123863040 := by
  constructor
  · exact Int.le_trans (by omega) (Int.mul_le_mul h1 h3 (by omega) (by omega))
  · exact Int.le_trans (Int.mul_le_mul h2 h4 (by omega) (by omega)) (by omega)

set_option maxRecDepth 20000 in
set_option maxHeartbeats 4000000 in
theorem unit_any (m : Met) (h1 : 1 ≤ m.u) (h2 : m.u ≤ 64) (w : World) :
    Calls Try.prog 47 #[metV m] w fun e w' => e = .returned (.int .i64 m.un) ∧ Only [] w w' := by
  obtain ⟨q, hq⟩ : ∃ q, m.un = q := ⟨_, rfl⟩
  have hr := un_rng h1 h2
  have hu : ¬ m.u = 0 := by omega
  have hq' : Int.tdiv 1935360 m.u = q := by rw [← hq]; exact Int.tdiv_eq_ediv_of_nonneg (by omega)
  rw [hq]
  obtain ⟨c, u, g0, g1, g2, g3, g4, g5⟩ := m
  simp only [Met.un] at *
  have k1 : IntKind.i64.wrap q = q := IntWalk.i64_in _ (by omega)
  go_enter Try.func47, Try.ntmps47
  go_wp2
  go_ret
  exact ⟨rfl, (Only.refl _ _).alloc _⟩

theorem met_cells {W W' : World} {B : Nat} {m : Met} (h : Blk W B 36 (metL m)) (ho : Only [] W W') :
    Blk W' B 36 (metL m) ∧ W'.cell? ⟨B, 0, none⟩ = some (.int .i64 m.c) ∧ W'.cell? ⟨B, 1, none⟩ = some (.int .i64 m.u) ∧ W'.cell? ⟨B, 2, none⟩ = some (.int .i64 m.g0) ∧ W'.cell? ⟨B, 3, none⟩ = some (.int .i64 m.g1)
      ∧ W'.cell? ⟨B, 4, none⟩ = some (.int .i64 m.g2) ∧ W'.cell? ⟨B, 5, none⟩ = some (.int .i64 m.g3) ∧ W'.cell? ⟨B, 6, none⟩ = some (.int .i64 m.g4) ∧ W'.cell? ⟨B, 7, none⟩ = some (.int .i64 m.g5) := by
  have h' := h.only ho (by simp)
  exact ⟨h', h'.cell 0, h'.cell 1, h'.cell 2, h'.cell 3, h'.cell 4, h'.cell 5, h'.cell 6, h'.cell 7⟩

theorem met_near {W : World} {B : Nat} {m : Met} (h : Blk W B 36 (metL m)) :
    (∀ i : Near [] W, i.W.cell? ⟨B, 0, none⟩ = some (.int .i64 m.c)) ∧ (∀ i : Near [] W, i.W.cell? ⟨B, 1, none⟩ = some (.int .i64 m.u)) ∧ (∀ i : Near [] W, i.W.cell? ⟨B, 2, none⟩ = some (.int .i64 m.g0)) ∧ (∀ i : Near [] W, i.W.cell? ⟨B, 3, none⟩ = some (.int .i64 m.g1))
      ∧ (∀ i : Near [] W, i.W.cell? ⟨B, 4, none⟩ = some (.int .i64 m.g2)) ∧ (∀ i : Near [] W, i.W.cell? ⟨B, 5, none⟩ = some (.int .i64 m.g3)) ∧ (∀ i : Near [] W, i.W.cell? ⟨B, 6, none⟩ = some (.int .i64 m.g4)) ∧ (∀ i : Near [] W, i.W.cell? ⟨B, 7, none⟩ = some (.int .i64 m.g5)) :=
  ⟨fun i => (met_cells h i.only).2.1, fun i => (met_cells h i.only).2.2.1, fun i => (met_cells h i.only).2.2.2.1, fun i => (met_cells h i.only).2.2.2.2.1, fun i => (met_cells h i.only).2.2.2.2.2.1, fun i => (met_cells h i.only).2.2.2.2.2.2.1,
    fun i => (met_cells h i.only).2.2.2.2.2.2.2.1, fun i => (met_cells h i.only).2.2.2.2.2.2.2.2⟩

set_option maxRecDepth 20000 in
set_option maxHeartbeats 4000000 in
theorem length_any (m : Met) (h0 : 1 ≤ m.c) (h0' : m.c ≤ 64) (h1 : 1 ≤ m.u) (h2 : m.u ≤ 64) (w : World) :
    Calls Try.prog 43 #[metV m] w fun e w' => e = .returned (.int .i64 m.len) ∧ Only [] w w' := by
  have hr := un_rng h1 h2
  have hl := len_rng h0 h0' hr.1 hr.2
  have HU := Lib.hid (unit_any m h1 h2)
  obtain ⟨q, hq⟩ : ∃ q, m.un = q := ⟨_, rfl⟩
  have hl' : IntKind.i64.wrap (m.c * q) = m.len := by rw [← hq]; exact IntWalk.i64_in _ (by unfold Met.un; omega)
  rw [hq] at HU
  obtain ⟨l, hL⟩ : ∃ l, m.len = l := ⟨_, rfl⟩
  rw [hL] at hl' ⊢
  clear hl hr
  clear hq hL
  obtain ⟨n0, n1, n2, n3, n4, n5, n6, n7⟩ := met_near (Blk.new w 36 (metL m))
  go_enter Try.func43, Try.ntmps43
  go_wp2
  refine wp_near [] (by kernel_rfl) (by kernel_rfl) ?_
  repeat (go_big_quiet_step ((go_at_call 47; with_reducible exact near_call _ (HU.out _))))
  refine wpQuiet_nil ?_
  intro i
  obtain ⟨wq, pq⟩ := i
  dsimp only
  have HQ := Lib.hid (((Only.refl [] _).alloc _).trans pq)
  clear n0 n1 n2 n3 n4 n5 n6 n7 pq
  go_wp2
  go_ret
  exact ⟨rfl, HQ.out⟩
end Go.Proofs.Ytglkpoiajebleaa
