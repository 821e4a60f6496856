/- DERIVED. The arguments of the skyline statements, read, with the bounds of their numbers. -/
import Derived.Test.YtblcgfmgfepajaaOps
namespace Go.Proofs.Ytblcgfmgfepajaa
open Go.RowKit Go.ChangeShapes Go.WideShapes Go.ChangeAt

/-- A number of 64 bits. -/
def I64 (x : Int) : Prop := -9223372036854775808 ≤ x ∧ x ≤ 9223372036854775807
structure OpR.Wide (o : OpR) : Prop where
  a : I64 o.a
  b : I64 o.b
  c : I64 o.c
  d : I64 o.d
  e : I64 o.e

section
variable {H : Type} {enc : TypeId × Value → H} {P : Program} {w : World} {base : Nat} {spare : Nat → Bool} {held : Bool}
theorem op_of2 {vs : List Value} (h : Fits (CK.is enc P w base spare held) [.int .u8, .int .i64, .int .i64, .int .i64, .int .i64, .int .i64, .int .i64, .int .i64, .int .i64, .int .i64] vs) :
    ∃ o : OpR, vs = o.cells ∧ 0 ≤ o.kd ∧ o.kd ≤ 255 ∧ o.Wide := by
  obtain ⟨_, _, rfl, ⟨kd, rfl, wk⟩, g1⟩ := h.cons
  obtain ⟨_, _, rfl, ⟨a, rfl, wa⟩, g2⟩ := g1.cons
  obtain ⟨_, _, rfl, ⟨b, rfl, wb⟩, g3⟩ := g2.cons
  obtain ⟨_, _, rfl, ⟨c, rfl, wc⟩, g4⟩ := g3.cons
  obtain ⟨_, _, rfl, ⟨d, rfl, wd⟩, g5⟩ := g4.cons
  obtain ⟨_, _, rfl, ⟨e, rfl, we⟩, g6⟩ := g5.cons
  obtain ⟨_, _, rfl, ⟨l, rfl, _⟩, g7⟩ := g6.cons
  obtain ⟨_, _, rfl, ⟨bb, rfl, _⟩, g8⟩ := g7.cons
  obtain ⟨_, _, rfl, ⟨r, rfl, _⟩, g9⟩ := g8.cons
  obtain ⟨_, _, rfl, ⟨t, rfl, _⟩, g10⟩ := g9.cons
  obtain rfl := g10.nil
  have b1 := bounds_u8 wk
  have b2 := bounds_i64 wa
  have b3 := bounds_i64 wb
  have b4 := bounds_i64 wc
  have b5 := bounds_i64 wd
  have b6 := bounds_i64 we
  exact ⟨⟨kd, a, b, c, d, e, l, bb, r, t⟩, rfl, b1.1, b1.2, ⟨b2.1, b2.2⟩, ⟨b3.1, b3.2⟩, ⟨b4.1, b4.2⟩, ⟨b5.1, b5.2⟩, ⟨b6.1, b6.2⟩⟩
end

section
variable {H : Type} {enc : TypeId × Value → H} {w : World} {base : Nat} {spare : Nat → Bool} {held : Bool}
theorem arg_op2 {r : Reach} {b0 : Nat} {v : Value} {d : DataW H} {p : List MemPlace} (hv : Value.okWide Try.prog w r b0 43 v)
    (h : DataW.Trod enc Try.prog w base spare held 43 v d p) : ∃ o : OpR, v = .agg o.cells.toArray ∧ 0 ≤ o.kd ∧ o.kd ≤ 255 ∧ o.Wide := by
  obtain ⟨vs, rfl, hF⟩ := arg_struct Try.underlying43 flat_op hv h
  obtain ⟨o, rfl, h1⟩ := op_of2 hF
  exact ⟨o, rfl, h1⟩
theorem ops_of2 {fuel : Nat} {v : Value} {x : DataW H × List MemPlace} (h : DataW.trod enc Try.prog w base spare held fuel 36 [v] = some x) :
    ∃ (A : Option Addr) (cp : Nat) (ops : List OpR), v = .slice A ops.length cp ∧ OpsAt w A ops ∧ ∀ i (hi : i < ops.length), ops[i].Wide := by
  obtain ⟨A, len, cap, rfl, hl, hm, _, hi⟩ := slice_flat Try.underlying36 flat_op (by kernel_rfl) (by decide) h
  obtain ⟨ops, hlen, hq⟩ := list_of (Q := fun i (o : OpR) => (∃ b off, A = some ⟨b, off, none⟩ ∧ b < w.heap.size ∧ ∀ j u, o.cells[j]? = some u → w.cell? ⟨b, off + i * 10 + j, none⟩ = some u) ∧ (0 ≤ o.kd ∧ o.kd ≤ 255) ∧ o.Wide) len fun i hlt => by
    obtain ⟨b, off, vs, hA, hb, hF, hc⟩ := hi i hlt
    obtain ⟨o, rfl, h1, h2, h3⟩ := op_of2 hF
    exact ⟨o, ⟨b, off, hA, hb, hc⟩, ⟨h1, h2⟩, h3⟩
  subst hlen
  exact ⟨A, cap, ops, rfl, ⟨fun i hi => (hq i hi).1, fun i hi => (hq i hi).2.1, by unfold maxLen at hm; omega⟩, fun i hi => (hq i hi).2.2⟩
theorem arg_ops2 {r : Reach} {b0 : Nat} {v : Value} {d : DataW H} {p : List MemPlace} (hv : Value.okWide Try.prog w r b0 36 v)
    (h : DataW.Trod enc Try.prog w base spare held 36 v d p) : ∃ (A : Option Addr) (cp : Nat) (ops : List OpR), v = .slice A ops.length cp ∧ OpsAt w A ops ∧ ∀ i (hi : i < ops.length), ops[i].Wide := by
  obtain ⟨a0, len0, cap0, rfl⟩ := okWide_slice Try.underlying36 hv
  obtain ⟨fuel, hf⟩ := h
  exact ops_of2 hf
end
end Go.Proofs.Ytblcgfmgfepajaa
