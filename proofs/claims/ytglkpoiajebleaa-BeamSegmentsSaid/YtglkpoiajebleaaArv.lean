/- DERIVED. The arguments of the statements of chapter 26, read: voices. -/
import Derived.Test.YtglkpoiajebleaaArg
import Derived.Test.YtglkpoiajebleaaMak
namespace Go.Proofs.Ytglkpoiajebleaa
open Go.RowKit Go.ChangeShapes Go.WideShapes Go.ChangeAt

theorem flat_voice : flat Try.prog 5 25 = some [.int .u8, .ref 22, .ref 23] := by kernel_rfl
theorem flat_u3 : flat Try.prog 5 68 = some [.int .u8, .int .u8, .int .u8] := by kernel_rfl
theorem flat_i2 : flat Try.prog 5 70 = some [.int .i8, .int .i8] := by kernel_rfl

section
variable {H : Type} {enc : TypeId × Value → H} {P : Program} {w : World} {base : Nat} {spare : Nat → Bool} {held : Bool}
theorem one_ref {t : TypeId} {ks : List CK} {vs : List Value} (h : Fits (CK.is enc P w base spare held) (.ref t :: ks) vs) : ∃ v us n x, vs = v :: us ∧ DataW.trod enc P w base spare held n t [v] = some x ∧ Fits (CK.is enc P w base spare held) ks us := by
  obtain ⟨v, us, rfl, ⟨n, x, hx⟩, g1⟩ := h.cons
  exact ⟨v, us, n, x, rfl, hx, g1⟩
theorem three_u8 {vs : List Value} (h : Fits (CK.is enc P w base spare held) [.int .u8, .int .u8, .int .u8] vs) : ∃ x : Vn, vs = [.int .u8 x.a, .int .u8 x.b, .int .u8 x.c] ∧ x.Ok := by
  obtain ⟨a, us, rfl, ha, g⟩ := one_int h
  obtain ⟨b, us, rfl, hb, g⟩ := one_int g
  obtain ⟨c, us, rfl, hc, g⟩ := one_int g
  obtain rfl := g.nil
  exact ⟨⟨a, b, c⟩, rfl, ⟨bounds_u8 ha, bounds_u8 hb, bounds_u8 hc⟩⟩
theorem two_i8 {vs : List Value} (h : Fits (CK.is enc P w base spare held) [.int .i8, .int .i8] vs) : ∃ x : Vh, vs = [.int .i8 x.h, .int .i8 x.c] ∧ x.Ok := by
  obtain ⟨a, us, rfl, ha, g⟩ := one_int h
  obtain ⟨b, us, rfl, hb, g⟩ := one_int g
  obtain rfl := g.nil
  exact ⟨⟨a, b⟩, rfl, ⟨bounds_i8 ha, bounds_i8 hb⟩⟩
set_option maxRecDepth 20000 in
theorem vns_of {fuel : Nat} {v : Value} {x : DataW H × List MemPlace} (h : DataW.trod enc Try.prog w base spare held fuel 22 [v] = some x) : ∃ (A : Option Addr) (c : Nat) (l : List Vn), v = .slice A l.length c ∧ VnsAt w A l := by
  obtain ⟨A, len, cap, rfl, hl, hm, _, hi⟩ := slice_flat Try.underlying22 flat_u3 (by kernel_rfl) (by decide) h
  obtain ⟨l, hlen, hq⟩ := list_of (Q := fun i (p : Vn) => (∃ b off, A = some ⟨b, off, none⟩ ∧ b < w.heap.size ∧ w.cell? ⟨b, off + i * 3, none⟩ = some (.int .u8 p.a) ∧ w.cell? ⟨b, off + i * 3 + 1, none⟩ = some (.int .u8 p.b) ∧ w.cell? ⟨b, off + i * 3 + 2, none⟩ = some (.int .u8 p.c)) ∧ p.Ok) len fun i hlt => by
    obtain ⟨b, off, vs, hA, hb, hF, hc⟩ := hi i hlt
    obtain ⟨p, rfl, hp⟩ := three_u8 hF
    exact ⟨p, ⟨b, off, hA, hb, hc 0 _ rfl, hc 1 _ rfl, hc 2 _ rfl⟩, hp⟩
  subst hlen
  refine ⟨A, cap, l, rfl, fun i hi => (hq i hi).1, fun p hp => ?_⟩
  obtain ⟨i, hi, rfl⟩ := List.mem_iff_getElem.1 hp
  exact (hq i hi).2
set_option maxRecDepth 20000 in
theorem vhs_of {fuel : Nat} {v : Value} {x : DataW H × List MemPlace} (h : DataW.trod enc Try.prog w base spare held fuel 23 [v] = some x) : ∃ (A : Option Addr) (c : Nat) (l : List Vh), v = .slice A l.length c ∧ VhsAt w A l := by
  obtain ⟨A, len, cap, rfl, hl, hm, _, hi⟩ := slice_flat Try.underlying23 flat_i2 (by kernel_rfl) (by decide) h
  obtain ⟨l, hlen, hq⟩ := list_of (Q := fun i (p : Vh) => (∃ b off, A = some ⟨b, off, none⟩ ∧ b < w.heap.size ∧ w.cell? ⟨b, off + i * 2, none⟩ = some (.int .i8 p.h) ∧ w.cell? ⟨b, off + i * 2 + 1, none⟩ = some (.int .i8 p.c)) ∧ p.Ok) len fun i hlt => by
    obtain ⟨b, off, vs, hA, hb, hF, hc⟩ := hi i hlt
    obtain ⟨p, rfl, hp⟩ := two_i8 hF
    exact ⟨p, ⟨b, off, hA, hb, hc 0 _ rfl, hc 1 _ rfl⟩, hp⟩
  subst hlen
  refine ⟨A, cap, l, rfl, fun i hi => (hq i hi).1, fun p hp => ?_⟩
  obtain ⟨i, hi, rfl⟩ := List.mem_iff_getElem.1 hp
  exact (hq i hi).2
set_option maxRecDepth 20000 in
theorem arg_voice {r : Reach} {b0 : Nat} {v : Value} {d : DataW H} {p : List MemPlace} (hv : Value.okWide Try.prog w r b0 25 v)
    (h : DataW.Trod enc Try.prog w base spare held 25 v d p) :
    ∃ (o : Int) (A : Option Addr) (c : Nat) (ns : List Vn) (B : Option Addr) (d : Nat) (hs : List Vh), v = voiV o A ns.length c B hs.length d ∧ (0 ≤ o ∧ o ≤ 255) ∧ VnsAt w A ns ∧ VhsAt w B hs := by
  obtain ⟨vs, rfl, hF⟩ := arg_struct Try.underlying25 flat_voice hv h
  obtain ⟨o, us, rfl, ho, g⟩ := one_int hF
  obtain ⟨v1, us, n1, x1, rfl, hx1, g⟩ := one_ref g
  obtain ⟨v2, us, n2, x2, rfl, hx2, g⟩ := one_ref g
  obtain rfl := g.nil
  obtain ⟨A, c, ns, rfl, hA⟩ := vns_of hx1
  obtain ⟨B, d, hs, rfl, hB⟩ := vhs_of hx2
  exact ⟨o, A, c, ns, B, d, hs, rfl, bounds_u8 ho, hA, hB⟩
end
end Go.Proofs.Ytglkpoiajebleaa
