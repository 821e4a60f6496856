/- DERIVED. Two operations, read. -/
import Derived.Test.YtblcgfmgfepajaaOps
namespace Go.Proofs.Ytblcgfmgfepajaa
open Go.RowKit Go.ChangeShapes Go.WideShapes Go.ChangeAt

def pairCells (o p : OpR) : List Value := o.cells ++ p.cells
theorem flat_pair : flat Try.prog 9 69 = some ([.int .u8, .int .i64, .int .i64, .int .i64, .int .i64, .int .i64, .int .i64, .int .i64, .int .i64, .int .i64] ++ [.int .u8, .int .i64, .int .i64, .int .i64, .int .i64, .int .i64, .int .i64, .int .i64, .int .i64, .int .i64]) := by kernel_rfl

section
variable {R : CK → Value → Prop}
theorem Fits.split : ∀ {ks ls : List CK} {vs : List Value}, Fits R (ks ++ ls) vs → ∃ us ws, vs = us ++ ws ∧ Fits R ks us ∧ Fits R ls ws
  | [], _, vs, h => ⟨[], vs, rfl, trivial, h⟩
  | k :: ks, ls, vs, h => by
    obtain ⟨v, us, rfl, h1, h2⟩ := Fits.cons h
    obtain ⟨a, b, rfl, h3, h4⟩ := Fits.split h2
    exact ⟨v :: a, b, rfl, ⟨h1, h3⟩, h4⟩
end

section
variable {H : Type} {enc : TypeId × Value → H} {w : World} {base : Nat} {spare : Nat → Bool} {held : Bool}
theorem arg_pair {r : Reach} {b0 : Nat} {v : Value} {d : DataW H} {p : List MemPlace} (hv : Value.okWide Try.prog w r b0 69 v)
    (h : DataW.Trod enc Try.prog w base spare held 69 v d p) : ∃ o q : OpR, v = .agg (pairCells o q).toArray := by
  obtain ⟨vs, rfl, hF⟩ := arg_array Try.underlying69 flat_pair hv h
  obtain ⟨a, b, rfl, h1, h2⟩ := Fits.split hF
  obtain ⟨o, rfl, _⟩ := op_of h1
  obtain ⟨q, rfl, _⟩ := op_of h2
  exact ⟨o, q, rfl⟩
end
end Go.Proofs.Ytblcgfmgfepajaa
