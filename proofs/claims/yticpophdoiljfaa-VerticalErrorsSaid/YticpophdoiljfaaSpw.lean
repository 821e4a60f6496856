/- DERIVED. Vertical: the plain law of VerticalSpreads. -/
import Derived.Test.YticpophdoiljfaaGrw
import Derived.Test.YticpophdoiljfaaCls
import Derived.Test.YticpophdoiljfaaMsp
namespace Go.Proofs.Yticpophdoiljfaa
open Go.RowKit

theorem way_set2 {W3 w5 : World} {B12 g5 n : Nat} {s t u s0 t0 u0 : Value} {f : Nat → Value} (zB : Blk w5 B12 24 [s0, t0, u0]) (p5 : Only [] W3 w5) (hB : W3.heap.size ≤ B12) (hg : g5 ≠ B12) (hm : ∀ i, i < n → w5.cell? ⟨g5, i, none⟩ = some (f i)) :
    Blk (((w5.setCell ⟨B12, 0, none⟩ s).setCell ⟨B12, 1, none⟩ t).setCell ⟨B12, 2, none⟩ u) B12 24 [s, t, u] ∧ Only [] W3 (((w5.setCell ⟨B12, 0, none⟩ s).setCell ⟨B12, 1, none⟩ t).setCell ⟨B12, 2, none⟩ u) ∧
    (∀ i, i < n → (((w5.setCell ⟨B12, 0, none⟩ s).setCell ⟨B12, 1, none⟩ t).setCell ⟨B12, 2, none⟩ u).cell? ⟨g5, i, none⟩ = some (f i)) := by
  have o : Only [B12] w5 (((w5.setCell ⟨B12, 0, none⟩ s).setCell ⟨B12, 1, none⟩ t).setCell ⟨B12, 2, none⟩ u) := (((Only.refl [B12] w5).setCell (p := ⟨B12, 0, none⟩) (.inl (by simp)) s).setCell (p := ⟨B12, 1, none⟩) (.inl (by simp)) t).setCell (p := ⟨B12, 2, none⟩) (.inl (by simp)) u
  refine ⟨((zB.set_ 0 s).set_ 1 t).set_ 2 u, ((p5.more (T := [B12]) (by simp)).trans o).less fun q hq hl => ?_, fun i hi => ?_⟩
  · simp at hq
    omega
  · have h1 := hm i hi
    exact (o.cell (p := ⟨g5, i, none⟩) (World.block_lt_of_cell? w5 ⟨g5, i, none⟩ h1) (by simpa using hg)).trans h1
theorem way_new2 {W3 w5 : World} {g5 n : Nat} {s t u : Value} {f : Nat → Value} (p5 : Only [] W3 w5) (hm : ∀ i, i < n → w5.cell? ⟨g5, i, none⟩ = some (f i)) :
    Blk (w5.alloc (.cells #[s, t, u] 24)) w5.heap.size 24 [s, t, u] ∧ Only [] W3 (w5.alloc (.cells #[s, t, u] 24)) ∧
    (∀ i, i < n → (w5.alloc (.cells #[s, t, u] 24)).cell? ⟨g5, i, none⟩ = some (f i)) :=
  ⟨Blk.new w5 _ _, p5.alloc _, fun i hi => (World.cell?_alloc_lt w5 _ ⟨g5, i, none⟩ (World.block_lt_of_cell? w5 ⟨g5, i, none⟩ (hm i hi))).trans (hm i hi)⟩

/-- The middle lines behind Spread. -/
def sprL (ms ps : List Int) (x : Int) : List Int := (List.range ms.length).map (spreadAt ms ps x)
theorem sprL_len (ms ps : List Int) (x : Int) : (sprL ms ps x).length = ms.length := by simp [sprL]
theorem sprL_at (ms ps : List Int) (x : Int) (i : Nat) (hi : i < (sprL ms ps x).length) : (sprL ms ps x)[i] = spreadAt ms ps x i := by simp [sprL]
theorem sprL_get (ms ps : List Int) (x : Int) (i : Nat) (hi : i < ms.length) : (sprL ms ps x).getD i 0 = spreadAt ms ps x i := by
  rw [getD_get (by rw [sprL_len]; exact hi), sprL_at]
theorem spread_step (ms ps : List Int) {x : Int} {q : Nat} (hx : 0 ≤ x) (hq : q + 1 < ps.length) : ms.getD q 0 - ms.getD (q + 1) 0 ≤ spreadAt ms ps x q - spreadAt ms ps x (q + 1) := by
  have hw : 0 < wtTo ps (ps.length - 1) := by have := wtTo_rng ps (ps.length - 1); omega
  have h1 := spread_diff ms ps x q hx hw
  omega
theorem spread_zero (ms ps : List Int) (x : Int) : spreadAt ms ps x 0 = ms.getD 0 0 := by
  have e : x * wtTo ps 0 / wtTo ps (ps.length - 1) = 0 := by simp [wtTo]
  unfold spreadAt
  rw [e]
  omega
theorem spread_low {ms ps : List Int} {x : Int} {i : Nat} (hx : 0 ≤ x) (hx1 : x ≤ 65535) (hi : i < ps.length) : ms.getD i 0 - x ≤ spreadAt ms ps x i ∧ spreadAt ms ps x i ≤ ms.getD i 0 := by
  have h0 := wtTo_rng ps i
  have h1 := wtTo_le ps (ps.length - 1 - i) i
  rw [show i + (ps.length - 1 - i) = ps.length - 1 by omega] at h1
  by_cases h2 : 2 ≤ ps.length
  · have h3 := wtTo_rng ps (ps.length - 1)
    have := quo_bd hx (by omega : x ≤ 16777216) (by omega) h1 (by omega)
    unfold spreadAt
    omega
  · obtain rfl : i = 0 := by omega
    rw [spread_zero]
    omega
theorem spread_proper {ms ps : List Int} {x T U : Int} (hp : Proper ms T U) (hU : -700000 ≤ U) (hx : 0 ≤ x) (hx1 : x ≤ 65535) (hlp : ps.length = ms.length) : Proper (sprL ms ps x) T (U - x) := by
  have hz := hp.pos
  refine ⟨by rw [sprL_len]; exact hz, ?_, hp.top, by omega, ?_, fun i hi => ?_⟩
  · rw [sprL_get _ _ _ _ hz, spread_zero]
    exact hp.zero
  · rw [sprL_len, sprL_get _ _ _ _ (by omega)]
    have h1 := hp.last
    have h2 := spread_low (ms := ms) (ps := ps) (i := ms.length - 1) hx hx1 (by omega)
    omega
  · rw [sprL_len] at hi
    rw [sprL_get _ _ _ _ hi, sprL_get _ _ _ _ (by omega)]
    have h1 := spread_step ms ps (q := i) hx (by omega)
    have h2 := hp.dec i hi
    omega
theorem IntsAt.at0 {w : World} {g : Nat} {ms : List Int} (h : IntsAt w (some ⟨g, 0, none⟩) ms) (i : Nat) (hi : i < ms.length) : w.cell? ⟨g, i, none⟩ = some (.int .i64 ms[i]) := by
  obtain ⟨b, off, hA, _, hc⟩ := h i hi
  simp only [Option.some.injEq, Addr.mk.injEq, and_true] at hA
  obtain ⟨rfl, rfl⟩ := hA
  rwa [Nat.zero_add] at hc
theorem stack_bot {w : World} {k n : Nat} {l : List StaffR} (h : Stv w k l n) {gap least : Int} (h0 : 0 ≤ gap) (h1 : gap ≤ 65536) (h2 : 1 ≤ least) (h3 : least ≤ 65536) :
    -700000 ≤ botTo (l.map StaffR.v) gap least (l.map StaffR.v).length ∧ botTo (l.map StaffR.v) gap least (l.map StaffR.v).length ≤ 0 := by
  have hf := h.few
  have hm := mid_range h h0 h1 h2 h3
  have hL : (l.map StaffR.v).length = l.length := List.length_map _
  have hB : ∀ i, i < (l.map StaffR.v).length → 0 ≤ maxL ((l.map StaffR.v).getD i ⟨[], [], 0⟩).hb ∧ maxL ((l.map StaffR.v).getD i ⟨[], [], 0⟩).hb ≤ 8128 := fun i hi => by
    rw [hL] at hi
    rw [getD_map hi]
    exact maxL_low 0 8128 (by rw [(h.ok i hi).lb]; exact h.npos) (h.low i hi).2
  have := botTo_rng (l.map StaffR.v) gap least (fun i hi => by have := hm i (by omega); omega) hB _ (Nat.le_refl _)
  exact ⟨this.1, this.2.1⟩
theorem stack_gap {w : World} {k n : Nat} {l : List StaffR} (h : Stv w k l n) (gap least : Int) (i : Nat) (hi : i + 1 < l.length) (c : Nat) (h1 : c < l[i].v.hb.length) (h2 : c < l[i + 1].v.ha.length) :
    l[i + 1].v.ha[c] + l[i].v.hb[c] + gap ≤ midTo (l.map StaffR.v) gap least i - midTo (l.map StaffR.v) gap least (i + 1) := by
  have hl := (h.ok i (by omega)).lb.trans (h.ok (i + 1) hi).la.symm
  have := maxL_ge (l := sums l[i].v.hb l[i + 1].v.ha) (x := l[i].v.hb[c] + l[i + 1].v.ha[c]) (by
    rw [← sums_get c h1 h2 (by rw [sums_len hl]; exact h1)]
    exact List.getElem_mem _)
  rw [midTo, getD_map (show i < l.length by omega), getD_map hi, distV]
  unfold distM
  omega
theorem spread_clr {w : World} {k n : Nat} {l : List StaffR} (h : Stv w k l n) {x T U : Int} (hp : Proper (mids (l.map StaffR.v) 64 300) T U) (hU : -700000 ≤ U) (hx : 0 ≤ x) (hx1 : x ≤ 65535) :
    clrB l (sprL (mids (l.map StaffR.v) 64 300) (partsOf l) x) T (U - x) 64 = true := by
  have ml : (mids (l.map StaffR.v) 64 300).length = l.length := by rw [mids_len, List.length_map]
  have pl := partsOf_len l
  refine clrB_true ⟨spread_proper hp hU hx hx1 (by omega), by rw [sprL_len]; exact ml, ⟨by omega, by omega⟩, fun i hi c h1 h2 => ?_⟩
  rw [sprL_get _ _ _ _ (by omega), sprL_get _ _ _ _ (by omega)]
  have hs := spread_step (mids (l.map StaffR.v) 64 300) (partsOf l) (q := i) hx (by omega)
  rw [mids_get _ _ _ _ (by rw [List.length_map]; omega), mids_get _ _ _ _ (by rw [List.length_map]; omega)] at hs
  have hg := stack_gap h 64 300 i hi c h1 h2
  omega
end Go.Proofs.Yticpophdoiljfaa
