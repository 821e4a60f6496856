/- DERIVED. The arguments of the statements of chapter 26, read: groups, segments, notes, metres. -/
import Derived.Test.YtglkpoiajebleaaFlg
import Derived.Test.YtglkpoiajebleaaFlat
namespace Go.Proofs.Ytglkpoiajebleaa
open Go.RowKit Go.ChangeShapes Go.WideShapes Go.ChangeAt

theorem flat_group : flat Try.prog 5 40 = some [.int .i64, .int .i64] := by kernel_rfl
theorem flat_seg : flat Try.prog 5 49 = some [.int .i64, .int .i64, .int .i64, .int .i64] := by kernel_rfl
theorem flat_note : flat Try.prog 5 42 = some [.int .i64, .int .i64, .int .i64, .int .i64, .int .i64, .int .i64] := by kernel_rfl
theorem flat_met : flat Try.prog 7 36 = some [.int .i64, .int .i64, .int .i64, .int .i64, .int .i64, .int .i64, .int .i64, .int .i64] := by kernel_rfl
theorem flat_three : flat Try.prog 5 63 = some [.int .i64, .int .i64, .int .i64] := by kernel_rfl

section
variable {R : CK → Value → Prop}
theorem Fits.cons {k : CK} {ks : List CK} {vs : List Value} (h : Fits R (k :: ks) vs) : ∃ v us, vs = v :: us ∧ R k v ∧ Fits R ks us := by
  cases vs with
  | nil => exact h.elim
  | cons v us => exact ⟨v, us, rfl, h.1, h.2⟩
theorem Fits.nil {vs : List Value} (h : Fits R [] vs) : vs = [] := by
  cases vs with
  | nil => rfl
  | cons v us => exact h.elim
end

section
variable {H : Type} {enc : TypeId × Value → H} {P : Program} {w : World} {base : Nat} {spare : Nat → Bool} {held : Bool}
theorem one_int {k : IntKind} {ks : List CK} {vs : List Value} (h : Fits (CK.is enc P w base spare held) (.int k :: ks) vs) : ∃ (x : Int) (us : List Value), vs = .int k x :: us ∧ (Lit.int k x).wf = true ∧ Fits (CK.is enc P w base spare held) ks us := by
  obtain ⟨v, us, rfl, ⟨x, rfl, hx⟩, g1⟩ := h.cons
  exact ⟨x, us, rfl, hx, g1⟩
theorem four_ints {vs : List Value} (h : Fits (CK.is enc P w base spare held) [.int .i64, .int .i64, .int .i64, .int .i64] vs) : ∃ x : Sg, vs = x.vs := by
  obtain ⟨a, us, rfl, -, g⟩ := one_int h
  obtain ⟨b, us, rfl, -, g⟩ := one_int g
  obtain ⟨c, us, rfl, -, g⟩ := one_int g
  obtain ⟨d, us, rfl, -, g⟩ := one_int g
  obtain rfl := g.nil
  exact ⟨⟨a, b, c, d⟩, rfl⟩
theorem six_ints {vs : List Value} (h : Fits (CK.is enc P w base spare held) [.int .i64, .int .i64, .int .i64, .int .i64, .int .i64, .int .i64] vs) : ∃ x : Nt, vs = x.vs := by
  obtain ⟨a, us, rfl, -, g⟩ := one_int h
  obtain ⟨b, us, rfl, -, g⟩ := one_int g
  obtain ⟨c, us, rfl, -, g⟩ := one_int g
  obtain ⟨d, us, rfl, -, g⟩ := one_int g
  obtain ⟨e, us, rfl, -, g⟩ := one_int g
  obtain ⟨f, us, rfl, -, g⟩ := one_int g
  obtain rfl := g.nil
  exact ⟨⟨a, b, c, d, e, f⟩, rfl⟩
set_option maxRecDepth 20000 in
theorem arg_group {r : Reach} {b0 : Nat} {v : Value} {d : DataW H} {p : List MemPlace} (hv : Value.okWide Try.prog w r b0 40 v)
    (h : DataW.Trod enc Try.prog w base spare held 40 v d p) : ∃ f k : Int, v = grpV f k := by
  obtain ⟨vs, rfl, hF⟩ := arg_struct Try.underlying40 flat_group hv h
  obtain ⟨a, us, rfl, -, g⟩ := one_int hF
  obtain ⟨b, us, rfl, -, g⟩ := one_int g
  obtain rfl := g.nil
  exact ⟨a, b, rfl⟩
set_option maxRecDepth 20000 in
theorem arg_met {r : Reach} {b0 : Nat} {v : Value} {d : DataW H} {p : List MemPlace} (hv : Value.okWide Try.prog w r b0 36 v)
    (h : DataW.Trod enc Try.prog w base spare held 36 v d p) : ∃ m : Met, v = metV m := by
  obtain ⟨vs, rfl, hF⟩ := arg_struct Try.underlying36 flat_met hv h
  obtain ⟨c, us, rfl, -, g⟩ := one_int hF
  obtain ⟨u, us, rfl, -, g⟩ := one_int g
  obtain ⟨a0, us, rfl, -, g⟩ := one_int g
  obtain ⟨a1, us, rfl, -, g⟩ := one_int g
  obtain ⟨a2, us, rfl, -, g⟩ := one_int g
  obtain ⟨a3, us, rfl, -, g⟩ := one_int g
  obtain ⟨a4, us, rfl, -, g⟩ := one_int g
  obtain ⟨a5, us, rfl, -, g⟩ := one_int g
  obtain rfl := g.nil
  exact ⟨⟨c, u, a0, a1, a2, a3, a4, a5⟩, rfl⟩
set_option maxRecDepth 20000 in
theorem arg_three {r : Reach} {b0 : Nat} {v : Value} {d : DataW H} {p : List MemPlace} (hv : Value.okWide Try.prog w r b0 63 v)
    (h : DataW.Trod enc Try.prog w base spare held 63 v d p) : ∃ x y z : Int, v = .agg #[.int .i64 x, .int .i64 y, .int .i64 z] := by
  obtain ⟨vs, rfl, hF⟩ := arg_array Try.underlying63 flat_three hv h
  obtain ⟨a, us, rfl, -, g⟩ := one_int hF
  obtain ⟨b, us, rfl, -, g⟩ := one_int g
  obtain ⟨c, us, rfl, -, g⟩ := one_int g
  obtain rfl := g.nil
  exact ⟨a, b, c, rfl⟩
set_option maxRecDepth 20000 in
theorem arg_segs {r : Reach} {b0 : Nat} {v : Value} {d : DataW H} {p : List MemPlace} (hv : Value.okWide Try.prog w r b0 44 v) (h : DataW.Trod enc Try.prog w base spare held 44 v d p) :
    ∃ (A : Option Addr) (c : Nat) (l : List Sg), v = .slice A l.length c ∧ SegsAt w A l ∧ l.length ≤ c := by
  obtain ⟨a0, len0, cap0, rfl⟩ := okWide_slice Try.underlying44 hv
  obtain ⟨fuel, hf⟩ := h
  obtain ⟨A, len, cap, hv', hl, hm, _, hi⟩ := slice_flat Try.underlying44 flat_seg (by kernel_rfl) (by decide) hf
  obtain ⟨l, hlen, hq⟩ := list_of (Q := fun i (x : Sg) => ∃ b off, A = some ⟨b, off, none⟩ ∧ b < w.heap.size ∧ ∀ k (_ : k < 4), w.cell? ⟨b, off + i * 4 + k, none⟩ = (x.vs)[k]?) len fun i hlt => by
    obtain ⟨b, off, vs, hA, hb, hF, hc⟩ := hi i hlt
    obtain ⟨x, rfl⟩ := four_ints hF
    refine ⟨x, b, off, hA, hb, fun k hk => ?_⟩
    have hk' : k < x.vs.length := hk
    have := hc k (x.vs[k]) (List.getElem?_eq_getElem hk')
    rw [List.getElem?_eq_getElem hk']
    exact this
  subst hlen
  exact ⟨A, cap, l, hv', hq, hl⟩
set_option maxRecDepth 20000 in
theorem arg_notes {r : Reach} {b0 : Nat} {v : Value} {d : DataW H} {p : List MemPlace} (hv : Value.okWide Try.prog w r b0 27 v) (h : DataW.Trod enc Try.prog w base spare held 27 v d p) :
    ∃ (A : Option Addr) (c : Nat) (l : List Nt), v = .slice A l.length c ∧ NotesAt w A l ∧ l.length ≤ c := by
  obtain ⟨a0, len0, cap0, rfl⟩ := okWide_slice Try.underlying27 hv
  obtain ⟨fuel, hf⟩ := h
  obtain ⟨A, len, cap, hv', hl, hm, _, hi⟩ := slice_flat Try.underlying27 flat_note (by kernel_rfl) (by decide) hf
  obtain ⟨l, hlen, hq⟩ := list_of (Q := fun i (x : Nt) => ∃ b off, A = some ⟨b, off, none⟩ ∧ b < w.heap.size ∧ ∀ k (_ : k < 6), w.cell? ⟨b, off + i * 6 + k, none⟩ = (x.vs)[k]?) len fun i hlt => by
    obtain ⟨b, off, vs, hA, hb, hF, hc⟩ := hi i hlt
    obtain ⟨x, rfl⟩ := six_ints hF
    refine ⟨x, b, off, hA, hb, fun k hk => ?_⟩
    have hk' : k < x.vs.length := hk
    have := hc k (x.vs[k]) (List.getElem?_eq_getElem hk')
    rw [List.getElem?_eq_getElem hk']
    exact this
  subst hlen
  exact ⟨A, cap, l, hv', hq, hl⟩
end
end Go.Proofs.Ytglkpoiajebleaa
