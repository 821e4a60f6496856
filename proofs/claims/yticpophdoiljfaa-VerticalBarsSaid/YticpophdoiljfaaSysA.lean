/- DERIVED. The arguments of the vertical statements, read: systems, integers, bytes, columns. -/
import Derived.Test.YticpophdoiljfaaPrp
import Derived.Test.YticpophdoiljfaaFlat
namespace Go.Proofs.Yticpophdoiljfaa
open Go.RowKit Go.ChangeShapes Go.WideShapes Go.ChangeAt

theorem flat_int : flat Try.prog 3 3 = some [.int .i64] := by kernel_rfl
theorem flat_u8 : flat Try.prog 3 5 = some [.int .u8] := by kernel_rfl
theorem flat_sys : flat Try.prog 5 24 = some [.ref 22, .int .i64, .int .i64] := by kernel_rfl
theorem flat_col : flat Try.prog 5 74 = some [.int .i8, .int .i8] := by kernel_rfl
theorem flat_row : flat Try.prog 5 75 = some [.ref 75] := by kernel_rfl

section
variable {R : CK → Value → Prop}
theorem Fits.cons {k : CK} {ks : List CK} {vs : List Value} (h : Fits R (k :: ks) vs) : ∃ v us, vs = v :: us ∧ R k v ∧ Fits R ks us := by
  cases vs with
  | nil => exact h.elim
  | cons v us => exact ⟨v, us, rfl, h.1, h.2⟩
theorem Fits.nil {vs : List Value} (h : Fits R [] vs) : vs = [] := by
  cases vs with
  | nil => rfl
  | cons v us => exact h.elim
end

section
variable {H : Type} {enc : TypeId × Value → H} {P : Program} {w : World} {base : Nat} {spare : Nat → Bool} {held : Bool}
theorem one_int {k : IntKind} {vs : List Value} (h : Fits (CK.is enc P w base spare held) [.int k] vs) : ∃ x : Int, vs = [.int k x] ∧ (Lit.int k x).wf = true := by
  obtain ⟨v, us, rfl, ⟨x, rfl, hx⟩, g1⟩ := h.cons
  obtain rfl := g1.nil
  exact ⟨x, rfl, hx⟩

/-- A slice of integers of a kind, as a slice's cell. -/
theorem ints_cell {fuel : Nat} {t e : TypeId} {k : IntKind} {v : Value} {x : DataW H × List MemPlace} (ht : P.underlying t = some (.slice e)) (hf : flat P 3 e = some [.int k]) (hC : P.cellsOf e = 1)
    (h : DataW.trod enc P w base spare held fuel t [v] = some x) :
    ∃ (A : Option Addr) (c : Nat) (l : List Int), v = .slice A l.length c ∧ (∀ i (hi : i < l.length), (∃ b off, A = some ⟨b, off, none⟩ ∧ b < w.heap.size ∧ w.cell? ⟨b, off + i, none⟩ = some (.int k l[i])) ∧ (Lit.int k l[i]).wf = true) ∧ l.length ≤ 9223372036854775807 := by
  obtain ⟨A, len, cap, rfl, hl, hm, _, hi⟩ := slice_flat ht hf hC (by simp) h
  obtain ⟨l, hlen, hq⟩ := list_of (Q := fun i (y : Int) => (∃ b off, A = some ⟨b, off, none⟩ ∧ b < w.heap.size ∧ w.cell? ⟨b, off + i, none⟩ = some (.int k y)) ∧ (Lit.int k y).wf = true) len fun i hlt => by
    obtain ⟨b, off, vs, hA, hb, hF, hc⟩ := hi i hlt
    obtain ⟨y, rfl, hy⟩ := one_int hF
    have := hc 0 _ rfl
    simp only [List.length_singleton, Nat.mul_one, Nat.add_zero] at this
    exact ⟨y, ⟨b, off, hA, hb, this⟩, hy⟩
  subst hlen
  exact ⟨A, cap, l, rfl, hq, by unfold maxLen at hm; omega⟩

set_option maxRecDepth 20000 in
theorem ints_of {fuel : Nat} {v : Value} {x : DataW H × List MemPlace} (h : DataW.trod enc Try.prog w base spare held fuel 22 [v] = some x) :
    ∃ (A : Option Addr) (c : Nat) (l : List Int), v = .slice A l.length c ∧ IntsAt w A l ∧ l.length ≤ 9223372036854775807 := by
  obtain ⟨A, c, l, rfl, h1, h2⟩ := ints_cell Try.underlying22 flat_int (by kernel_rfl) h
  exact ⟨A, c, l, rfl, fun i hi => (h1 i hi).1, h2⟩
set_option maxRecDepth 20000 in
theorem bytes_of {fuel : Nat} {v : Value} {x : DataW H × List MemPlace} (h : DataW.trod enc Try.prog w base spare held fuel 42 [v] = some x) :
    ∃ (A : Option Addr) (c : Nat) (l : List Int), v = .slice A l.length c ∧ BytesAt w A l := by
  obtain ⟨A, c, l, rfl, h1, h2⟩ := ints_cell Try.underlying42 flat_u8 (by kernel_rfl) h
  refine ⟨A, c, l, rfl, fun i hi => (h1 i hi).1, fun y hy => ?_, h2⟩
  obtain ⟨i, hi, rfl⟩ := List.mem_iff_getElem.1 hy
  have := bounds_u8 (h1 i hi).2
  omega

theorem two_i8 {vs : List Value} (h : Fits (CK.is enc P w base spare held) [.int .i8, .int .i8] vs) : ∃ p : Int × Int, vs = [.int .i8 p.1, .int .i8 p.2] ∧ (-128 ≤ p.1 ∧ p.1 ≤ 127) ∧ (-128 ≤ p.2 ∧ p.2 ≤ 127) := by
  obtain ⟨v, us, rfl, ⟨x, rfl, hx⟩, g1⟩ := h.cons
  obtain ⟨y, rfl, hy⟩ := one_int g1
  have := bounds_i8 hx
  have := bounds_i8 hy
  exact ⟨(x, y), rfl, by omega, by omega⟩
/-- A row of columns, as a slice's cell. -/
def RowAt (w : World) (v : Value) (l : List (Int × Int)) : Prop := ∃ (A : Option Addr) (c : Nat), v = .slice A l.length c ∧ (∀ i (hi : i < l.length), ∃ b off, A = some ⟨b, off, none⟩ ∧ b < w.heap.size ∧ w.cell? ⟨b, off + i * 2, none⟩ = some (.int .i8 l[i].1) ∧ w.cell? ⟨b, off + i * 2 + 1, none⟩ = some (.int .i8 l[i].2)) ∧
  (∀ p ∈ l, (-128 ≤ p.1 ∧ p.1 ≤ 127) ∧ (-128 ≤ p.2 ∧ p.2 ≤ 127)) ∧ l.length ≤ 9223372036854775807
set_option maxRecDepth 20000 in
theorem row_of {fuel : Nat} {v : Value} {x : DataW H × List MemPlace} (h : DataW.trod enc Try.prog w base spare held fuel 75 [v] = some x) : ∃ l, RowAt w v l := by
  obtain ⟨A, len, cap, rfl, hl, hm, _, hi⟩ := slice_flat Try.underlying75 flat_col (by kernel_rfl) (by decide) h
  obtain ⟨l, hlen, hq⟩ := list_of (Q := fun i (p : Int × Int) => (∃ b off, A = some ⟨b, off, none⟩ ∧ b < w.heap.size ∧ w.cell? ⟨b, off + i * 2, none⟩ = some (.int .i8 p.1) ∧ w.cell? ⟨b, off + i * 2 + 1, none⟩ = some (.int .i8 p.2)) ∧ (-128 ≤ p.1 ∧ p.1 ≤ 127) ∧ (-128 ≤ p.2 ∧ p.2 ≤ 127)) len fun i hlt => by
    obtain ⟨b, off, vs, hA, hb, hF, hc⟩ := hi i hlt
    obtain ⟨p, rfl, hp⟩ := two_i8 hF
    exact ⟨p, ⟨b, off, hA, hb, hc 0 _ rfl, hc 1 _ rfl⟩, hp⟩
  subst hlen
  refine ⟨l, A, cap, rfl, fun i hi => (hq i hi).1, fun p hp => ?_, by unfold maxLen at hm; omega⟩
  obtain ⟨i, hi, rfl⟩ := List.mem_iff_getElem.1 hp
  exact (hq i hi).2
theorem one_ref {t : TypeId} {vs : List Value} (h : Fits (CK.is enc P w base spare held) [.ref t] vs) : ∃ v n x, vs = [v] ∧ DataW.trod enc P w base spare held n t [v] = some x := by
  obtain ⟨v, us, rfl, ⟨n, x, hx⟩, g1⟩ := h.cons
  obtain rfl := g1.nil
  exact ⟨v, n, x, rfl, hx⟩
set_option maxRecDepth 20000 in
theorem cols_of {fuel : Nat} {v : Value} {x : DataW H × List MemPlace} (h : DataW.trod enc Try.prog w base spare held fuel 32 [v] = some x) :
    ∃ (A : Option Addr) (c : Nat) (X : List (List (Int × Int))), v = .slice A X.length c ∧ ColsAt w A X := by
  obtain ⟨A, len, cap, rfl, hl, hm, _, hi⟩ := slice_flat Try.underlying32 flat_row (by kernel_rfl) (by decide) h
  obtain ⟨X, hlen, hq⟩ := list_of (Q := fun i (r : List (Int × Int)) => ∃ b off u, A = some ⟨b, off, none⟩ ∧ b < w.heap.size ∧ w.cell? ⟨b, off + i, none⟩ = some u ∧ RowAt w u r) len fun i hlt => by
    obtain ⟨b, off, vs, hA, hb, hF, hc⟩ := hi i hlt
    obtain ⟨u, n, y, rfl, hu⟩ := one_ref hF
    obtain ⟨r, hr⟩ := row_of hu
    have := hc 0 _ rfl
    simp only [List.length_singleton, Nat.mul_one, Nat.add_zero] at this
    exact ⟨r, b, off, u, hA, hb, this, hr⟩
  subst hlen
  refine ⟨A, cap, X, rfl, ⟨fun i hi => ?_, fun i hi => ?_, by unfold maxLen at hm; omega, fun i hi => ?_⟩⟩
  · obtain ⟨b, off, u, hA, hb, hc, A', c', rfl, hj, _, _⟩ := hq i hi
    exact ⟨b, off, A', c', hA, hb, hc, hj⟩
  · obtain ⟨b, off, u, hA, hb, hc, A', c', rfl, hj, hr, _⟩ := hq i hi
    exact hr
  · obtain ⟨b, off, u, hA, hb, hc, A', c', rfl, hj, _, hf⟩ := hq i hi
    exact hf

set_option maxRecDepth 20000 in
theorem sys_of {vs : List Value} (h : Fits (CK.is enc Try.prog w base spare held) [.ref 22, .int .i64, .int .i64] vs) :
    ∃ (A : Option Addr) (c : Nat) (ms : List Int) (t b : Int), vs = [.slice A ms.length c, .int .i64 t, .int .i64 b] ∧ IntsAt w A ms ∧ ms.length ≤ 9223372036854775807 := by
  obtain ⟨v, us, rfl, ⟨n, x, hx⟩, g1⟩ := h.cons
  obtain ⟨u, us, rfl, ⟨t, rfl, _⟩, g2⟩ := g1.cons
  obtain ⟨b, rfl, _⟩ := one_int g2
  obtain ⟨A, c, ms, rfl, hI, hl⟩ := ints_of hx
  exact ⟨A, c, ms, t, b, rfl, hI, hl⟩
set_option maxRecDepth 20000 in
theorem arg_sys {r : Reach} {b0 : Nat} {v : Value} {d : DataW H} {p : List MemPlace} (hv : Value.okWide Try.prog w r b0 24 v)
    (h : DataW.Trod enc Try.prog w base spare held 24 v d p) :
    ∃ (A : Option Addr) (c : Nat) (ms : List Int) (t b : Int), v = sysV A ms.length c t b ∧ IntsAt w A ms ∧ ms.length ≤ 9223372036854775807 := by
  obtain ⟨vs, rfl, hF⟩ := arg_struct Try.underlying24 flat_sys hv h
  obtain ⟨A, c, ms, t, b, rfl, h1⟩ := sys_of hF
  exact ⟨A, c, ms, t, b, rfl, h1⟩
set_option maxRecDepth 20000 in
theorem arg_ints {r : Reach} {b0 : Nat} {v : Value} {d : DataW H} {p : List MemPlace} (hv : Value.okWide Try.prog w r b0 22 v) (h : DataW.Trod enc Try.prog w base spare held 22 v d p) :
    ∃ (A : Option Addr) (c : Nat) (l : List Int), v = .slice A l.length c ∧ IntsAt w A l ∧ l.length ≤ 9223372036854775807 := by
  obtain ⟨a0, len0, cap0, rfl⟩ := okWide_slice Try.underlying22 hv
  obtain ⟨fuel, hf⟩ := h
  exact ints_of hf
set_option maxRecDepth 20000 in
theorem arg_bytes {r : Reach} {b0 : Nat} {v : Value} {d : DataW H} {p : List MemPlace} (hv : Value.okWide Try.prog w r b0 42 v) (h : DataW.Trod enc Try.prog w base spare held 42 v d p) :
    ∃ (A : Option Addr) (c : Nat) (l : List Int), v = .slice A l.length c ∧ BytesAt w A l := by
  obtain ⟨a0, len0, cap0, rfl⟩ := okWide_slice Try.underlying42 hv
  obtain ⟨fuel, hf⟩ := h
  exact bytes_of hf
set_option maxRecDepth 20000 in
theorem arg_cols {r : Reach} {b0 : Nat} {v : Value} {d : DataW H} {p : List MemPlace} (hv : Value.okWide Try.prog w r b0 32 v) (h : DataW.Trod enc Try.prog w base spare held 32 v d p) :
    ∃ (A : Option Addr) (c : Nat) (X : List (List (Int × Int))), v = .slice A X.length c ∧ ColsAt w A X := by
  obtain ⟨a0, len0, cap0, rfl⟩ := okWide_slice Try.underlying32 hv
  obtain ⟨fuel, hf⟩ := h
  exact cols_of hf
end
end Go.Proofs.Yticpophdoiljfaa
