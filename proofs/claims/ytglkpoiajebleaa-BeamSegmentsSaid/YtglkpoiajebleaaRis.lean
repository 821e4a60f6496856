/- DERIVED. Contracts of package beam: rise. -/
import Derived.Test.YtglkpoiajebleaaFlo
namespace Go.Proofs.Ytglkpoiajebleaa
open Go.RowKit

set_option maxRecDepth 20000 in
set_option maxHeartbeats 4000000 in
theorem rise_any {w : World} {A : Option Addr} {l : List Nt} (c : Nat) (h : NotesAt w A l) (hl : l.length ≤ 128) (F K : Nat) (h1 : F < l.length) (h2 : K < l.length) (s t : Int)
    (r1 : 0 ≤ l[F].t ∧ l[F].t ≤ 4398046511104) (r2 : 0 ≤ l[K].t ∧ l[K].t ≤ 4398046511104) (r3 : l[F].t < l[K].t) (r4 : 0 ≤ t ∧ t ≤ 4398046511104) (r5 : -4611686018427387904 ≤ s * (t - l[F].t) ∧ s * (t - l[F].t) ≤ 4611686018427387904) :
    Calls Try.prog 32 #[.slice A l.length c, grpV F K, .int .i64 s, .int .i64 t] w fun e w' => e = .returned (.int .i64 (s * (t - l[F].t) / (l[K].t - l[F].t))) ∧ Only [] w w' := by
  obtain ⟨b, off, rfl, hb, hc⟩ := h F h1
  obtain ⟨b', off', hA', hb', hd⟩ := h K h2
  simp only [Option.some.injEq, Addr.mk.injEq, and_true] at hA'
  obtain ⟨rfl, rfl⟩ := hA'
  have m0 := hc 0 (by omega)
  have m1 := hd 0 (by omega)
  simp only [Nt.vs, List.getElem?_cons_zero, Nat.add_zero] at m0 m1
  clear hc hd h
  generalize l[F].t = x at *
  generalize l[K].t = y at *
  have f0 : (0 : Int) ≤ (F : Int) := by omega
  have f1 : (F : Int) < (l.length : Int) := by omega
  have f2 : (0 : Int) ≤ (K : Int) := by omega
  have f3 : (K : Int) < (l.length : Int) := by omega
  have HF := Lib.hid (floor_any (s * (t - x)) (y - x) (by omega) r5)
  have k1 : IntKind.i64.wrap (t - x) = t - x := IntWalk.i64_in _ (by omega)
  have k2 : IntKind.i64.wrap (y - x) = y - x := IntWalk.i64_in _ (by omega)
  have k3 : IntKind.i64.wrap (s * (t - x)) = s * (t - x) := IntWalk.i64_in _ (by omega)
  clear r1 r2 r3 r4 r5
  go_enter Try.func32, Try.ntmps32
  go_wp2
  go_quiet (fail)
  go_wp2_with (go_at_call 40; refine (HF.out _).mono ?_; rintro e w1 ⟨rfl, o1⟩)
  go_ret
  exact ⟨rfl, (((Only.refl _ _).alloc _).drewN _).trans o1⟩
end Go.Proofs.Ytglkpoiajebleaa
