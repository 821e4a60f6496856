/- DERIVED. The arguments of the skyline statements, read: a start, an operation, a list of operations, two numbers. -/
import Derived.Test.YtblcgfmgfepajaaPlayB
import Derived.Test.YtblcgfmgfepajaaFlat
namespace Go.Proofs.Ytblcgfmgfepajaa
open Go.RowKit Go.ChangeShapes Go.WideShapes Go.ChangeAt

theorem flat_start : flat Try.prog 5 35 = some [.bool, .int .u8, .int .i16] := by kernel_rfl
theorem flat_op : flat Try.prog 8 43 = some [.int .u8, .int .i64, .int .i64, .int .i64, .int .i64, .int .i64, .int .i64, .int .i64, .int .i64, .int .i64] := by kernel_rfl
theorem flat_two : flat Try.prog 5 50 = some [.int .i64, .int .i64] := by kernel_rfl

section
variable {R : CK → Value → Prop}
theorem Fits.cons {k : CK} {ks : List CK} {vs : List Value} (h : Fits R (k :: ks) vs) : ∃ v us, vs = v :: us ∧ R k v ∧ Fits R ks us := by
  cases vs with
  | nil => exact h.elim
  | cons v us => exact ⟨v, us, rfl, h.1, h.2⟩
theorem Fits.nil {vs : List Value} (h : Fits R [] vs) : vs = [] := by
  cases vs with
  | nil => rfl
  | cons v us => exact h.elim
end

section
variable {H : Type} {enc : TypeId × Value → H} {P : Program} {w : World} {base : Nat} {spare : Nat → Bool} {held : Bool}
theorem start_of {vs : List Value} (h : Fits (CK.is enc P w base spare held) [.bool, .int .u8, .int .i16] vs) :
    ∃ (bl : Bool) (c hh : Int), vs = [.bool bl, .int .u8 c, .int .i16 hh] ∧ 0 ≤ c ∧ c ≤ 255 ∧ -32768 ≤ hh ∧ hh ≤ 32767 := by
  obtain ⟨_, _, rfl, ⟨bl, rfl⟩, g1⟩ := h.cons
  obtain ⟨_, _, rfl, ⟨c, rfl, wc⟩, g2⟩ := g1.cons
  obtain ⟨_, _, rfl, ⟨hh, rfl, wh⟩, g3⟩ := g2.cons
  obtain rfl := g3.nil
  have b1 := bounds_u8 wc
  have b2 := bounds_i16 wh
  exact ⟨bl, c, hh, rfl, b1.1, b1.2, b2.1, b2.2⟩
theorem two_of {vs : List Value} (h : Fits (CK.is enc P w base spare held) [.int .i64, .int .i64] vs) : ∃ x y : Int, vs = [.int .i64 x, .int .i64 y] := by
  obtain ⟨_, _, rfl, ⟨x, rfl, _⟩, g1⟩ := h.cons
  obtain ⟨_, _, rfl, ⟨y, rfl, _⟩, g2⟩ := g1.cons
  obtain rfl := g2.nil
  exact ⟨x, y, rfl⟩
theorem op_of {vs : List Value} (h : Fits (CK.is enc P w base spare held) [.int .u8, .int .i64, .int .i64, .int .i64, .int .i64, .int .i64, .int .i64, .int .i64, .int .i64, .int .i64] vs) :
    ∃ o : OpR, vs = o.cells ∧ 0 ≤ o.kd ∧ o.kd ≤ 255 := by
  obtain ⟨_, _, rfl, ⟨kd, rfl, wk⟩, g1⟩ := h.cons
  obtain ⟨_, _, rfl, ⟨a, rfl, _⟩, g2⟩ := g1.cons
  obtain ⟨_, _, rfl, ⟨b, rfl, _⟩, g3⟩ := g2.cons
  obtain ⟨_, _, rfl, ⟨c, rfl, _⟩, g4⟩ := g3.cons
  obtain ⟨_, _, rfl, ⟨d, rfl, _⟩, g5⟩ := g4.cons
  obtain ⟨_, _, rfl, ⟨e, rfl, _⟩, g6⟩ := g5.cons
  obtain ⟨_, _, rfl, ⟨l, rfl, _⟩, g7⟩ := g6.cons
  obtain ⟨_, _, rfl, ⟨bb, rfl, _⟩, g8⟩ := g7.cons
  obtain ⟨_, _, rfl, ⟨r, rfl, _⟩, g9⟩ := g8.cons
  obtain ⟨_, _, rfl, ⟨t, rfl, _⟩, g10⟩ := g9.cons
  obtain rfl := g10.nil
  have b1 := bounds_u8 wk
  exact ⟨⟨kd, a, b, c, d, e, l, bb, r, t⟩, rfl, b1.1, b1.2⟩
end

section
variable {H : Type} {enc : TypeId × Value → H} {w : World} {base : Nat} {spare : Nat → Bool} {held : Bool}
theorem arg_start {r : Reach} {b0 : Nat} {v : Value} {d : DataW H} {p : List MemPlace} (hv : Value.okWide Try.prog w r b0 35 v)
    (h : DataW.Trod enc Try.prog w base spare held 35 v d p) :
    ∃ (bl : Bool) (c hh : Int), v = .agg #[.bool bl, .int .u8 c, .int .i16 hh] ∧ 0 ≤ c ∧ c ≤ 255 ∧ -32768 ≤ hh ∧ hh ≤ 32767 := by
  obtain ⟨vs, rfl, hF⟩ := arg_struct Try.underlying35 flat_start hv h
  obtain ⟨bl, c, hh, rfl, h1⟩ := start_of hF
  exact ⟨bl, c, hh, rfl, h1⟩
theorem arg_op {r : Reach} {b0 : Nat} {v : Value} {d : DataW H} {p : List MemPlace} (hv : Value.okWide Try.prog w r b0 43 v)
    (h : DataW.Trod enc Try.prog w base spare held 43 v d p) : ∃ o : OpR, v = .agg o.cells.toArray ∧ 0 ≤ o.kd ∧ o.kd ≤ 255 := by
  obtain ⟨vs, rfl, hF⟩ := arg_struct Try.underlying43 flat_op hv h
  obtain ⟨o, rfl, h1⟩ := op_of hF
  exact ⟨o, rfl, h1⟩
theorem arg_two {r : Reach} {b0 : Nat} {v : Value} {d : DataW H} {p : List MemPlace} (hv : Value.okWide Try.prog w r b0 50 v)
    (h : DataW.Trod enc Try.prog w base spare held 50 v d p) : ∃ x y : Int, v = .agg #[.int .i64 x, .int .i64 y] := by
  obtain ⟨vs, rfl, hF⟩ := arg_array Try.underlying50 flat_two hv h
  obtain ⟨x, y, rfl⟩ := two_of hF
  exact ⟨x, y, rfl⟩

/-- A list of operations, as a slice's cell. -/
theorem ops_of {fuel : Nat} {v : Value} {x : DataW H × List MemPlace} (h : DataW.trod enc Try.prog w base spare held fuel 36 [v] = some x) :
    ∃ (A : Option Addr) (cp : Nat) (ops : List OpR), v = .slice A ops.length cp ∧ OpsAt w A ops := by
  obtain ⟨A, len, cap, rfl, hl, hm, _, hi⟩ := slice_flat Try.underlying36 flat_op (by kernel_rfl) (by decide) h
  obtain ⟨ops, hlen, hq⟩ := list_of (Q := fun i (o : OpR) => (∃ b off, A = some ⟨b, off, none⟩ ∧ b < w.heap.size ∧ ∀ j u, o.cells[j]? = some u → w.cell? ⟨b, off + i * 10 + j, none⟩ = some u) ∧ 0 ≤ o.kd ∧ o.kd ≤ 255) len fun i hlt => by
    obtain ⟨b, off, vs, hA, hb, hF, hc⟩ := hi i hlt
    obtain ⟨o, rfl, h1⟩ := op_of hF
    exact ⟨o, ⟨b, off, hA, hb, hc⟩, h1⟩
  subst hlen
  exact ⟨A, cap, ops, rfl, fun i hi => (hq i hi).1, fun i hi => (hq i hi).2, by unfold maxLen at hm; omega⟩
theorem arg_ops {r : Reach} {b0 : Nat} {v : Value} {d : DataW H} {p : List MemPlace} (hv : Value.okWide Try.prog w r b0 36 v)
    (h : DataW.Trod enc Try.prog w base spare held 36 v d p) : ∃ (A : Option Addr) (cp : Nat) (ops : List OpR), v = .slice A ops.length cp ∧ OpsAt w A ops := by
  obtain ⟨a0, len0, cap0, rfl⟩ := okWide_slice Try.underlying36 hv
  obtain ⟨fuel, hf⟩ := h
  exact ops_of hf
end
end Go.Proofs.Ytblcgfmgfepajaa
