/- DERIVED. Vertical: a stacked system is proper; the parts of staves; the plain law of Spread. -/
import Derived.Test.YticpophdoiljfaaSpe
namespace Go.Proofs.Yticpophdoiljfaa
open Go.RowKit
attribute [local go_sem ↓] Go.wp_at_zero Go.wp_at_succ

theorem mids_len (L : List SV) (gap least : Int) : (mids L gap least).length = L.length := by simp [mids]
theorem mids_get (L : List SV) (gap least : Int) (i : Nat) (hi : i < L.length) : (mids L gap least).getD i 0 = midTo L gap least i := by
  rw [getD_get (by rw [mids_len]; exact hi)]
  simp [mids]
theorem topTo_rng (L : List SV) (gap least : Int) (hm : ∀ i, i < L.length → midTo L gap least i ≤ 0) (ha : ∀ i, i < L.length → 0 ≤ maxL (L.getD i ⟨[], [], 0⟩).ha ∧ maxL (L.getD i ⟨[], [], 0⟩).ha ≤ 8128) : ∀ k, k ≤ L.length → 0 ≤ topTo L gap least k ∧ topTo L gap least k ≤ 8128
  | 0, _ => by simp [topTo]
  | k + 1, hk => by
    have := topTo_rng L gap least hm ha k (by omega)
    have := hm k (by omega)
    have := ha k (by omega)
    rw [topTo]
    omega
theorem botTo_rng (L : List SV) (gap least : Int) (hm : ∀ i, i < L.length → -600000 ≤ midTo L gap least i ∧ midTo L gap least i ≤ 0) (ha : ∀ i, i < L.length → 0 ≤ maxL (L.getD i ⟨[], [], 0⟩).hb ∧ maxL (L.getD i ⟨[], [], 0⟩).hb ≤ 8128) : ∀ k, k ≤ L.length → -700000 ≤ botTo L gap least k ∧ botTo L gap least k ≤ 0 ∧ (∀ i, i < k → botTo L gap least k ≤ midTo L gap least i)
  | 0, _ => ⟨by simp [botTo], by simp [botTo], fun i hi => absurd hi (by omega)⟩
  | k + 1, hk => by
    have h0 := botTo_rng L gap least hm ha k (by omega)
    have h1 := hm k (by omega)
    have h2 := ha k (by omega)
    rw [botTo]
    refine ⟨by omega, by omega, fun i hi => ?_⟩
    by_cases e : i = k
    · subst e; omega
    · have := h0.2.2 i (by omega)
      omega
theorem stack_proper {w : World} {k n : Nat} {l : List StaffR} (h : Stv w k l n) {gap least : Int} (h0 : 0 ≤ gap) (h1 : gap ≤ 65536) (h2 : 1 ≤ least) (h3 : least ≤ 65536) :
    Proper (mids (l.map StaffR.v) gap least) (topTo (l.map StaffR.v) gap least (l.map StaffR.v).length) (botTo (l.map StaffR.v) gap least (l.map StaffR.v).length) := by
  have hp := h.pos
  have hf := h.few
  have hm := mid_range h h0 h1 h2 h3
  have hd := dAt_range h h0 h1 h2 h3
  have hL : (l.map StaffR.v).length = l.length := List.length_map _
  have hA : ∀ i, i < (l.map StaffR.v).length → 0 ≤ maxL ((l.map StaffR.v).getD i ⟨[], [], 0⟩).ha ∧ maxL ((l.map StaffR.v).getD i ⟨[], [], 0⟩).ha ≤ 8128 := fun i hi => by
    rw [hL] at hi
    rw [getD_map hi]
    exact maxL_low 0 8128 (by rw [(h.ok i hi).la]; exact h.npos) (h.low i hi).1
  have hB : ∀ i, i < (l.map StaffR.v).length → 0 ≤ maxL ((l.map StaffR.v).getD i ⟨[], [], 0⟩).hb ∧ maxL ((l.map StaffR.v).getD i ⟨[], [], 0⟩).hb ≤ 8128 := fun i hi => by
    rw [hL] at hi
    rw [getD_map hi]
    exact maxL_low 0 8128 (by rw [(h.ok i hi).lb]; exact h.npos) (h.low i hi).2
  have hT := topTo_rng (l.map StaffR.v) gap least (fun i hi => (hm i (by omega)).2) hA _ (Nat.le_refl _)
  have hU := botTo_rng (l.map StaffR.v) gap least (fun i hi => by have := hm i (by omega); omega) hB _ (Nat.le_refl _)
  refine ⟨by rw [mids_len]; omega, ?_, by omega, by omega, ?_, fun i hi => ?_⟩
  · rw [mids_get _ _ _ _ (by omega)]; rfl
  · rw [mids_len, mids_get _ _ _ _ (by omega)]
    exact hU.2.2 _ (by omega)
  · rw [mids_len] at hi
    rw [mids_get _ _ _ _ hi, mids_get _ _ _ _ (by omega), midTo]
    have := hd i (by omega)
    unfold dAt at this
    omega

/-- The parts of staves. -/
def partsOf (l : List StaffR) : List Int := l.map fun r => r.v.part
theorem partsOf_len (l : List StaffR) : (partsOf l).length = l.length := by simp [partsOf]
theorem parts_sorted {w : World} {k n : Nat} {l : List StaffR} (h : Stv w k l n) : Sorted (partsOf l) := by
  intro i hi
  rw [partsOf_len] at hi
  rw [getD_get (by rw [partsOf_len]; omega), getD_get (by rw [partsOf_len]; omega)]
  simp only [partsOf, List.getElem_map]
  exact h.ord i hi

/-- What numbers gives. -/
def Numbered (w : World) (ps : List Int) (e : Ending) (w' : World) : Prop := ∃ A c, e = .returned (.slice A ps.length c) ∧ IntsAt w' A ps ∧ Only [] w w'

set_option maxRecDepth 20000 in
set_option maxHeartbeats 1000000 in
theorem numbers_any {w : World} {k n : Nat} {l : List StaffR} (cap : Nat) (h : Stv w k l n) :
    Calls Try.prog 30 #[.slice (some ⟨k, 0, none⟩) l.length cap] w fun e w' => Numbered w (partsOf l) e w' := by
  obtain ⟨i0, hi0, hz0, hz1, hz2⟩ := info_parts int_info
  have hf := h.few
  have H := Lib.hid h
  clear h
  go_enter Try.func30, Try.ntmps30
  go_wp2
  go_loopw [3, 4] (fun o i wr => ∃ (j : Nat) (v : Value), j ≤ l.length ∧ i = .int .i64 j ∧ v = o ∧ wr.ownsRow w.heap.size 3 1 v j (((partsOf l).take j).map (.int .i64)) ∧ Only [] w wr) (fun _ i _ => l.length - (intOf i).toNat)
  case atStart => exact ⟨0, _, by omega, rfl, rfl, World.ownsRow_nil _ _ _ _, Only.refl _ _⟩
  case round =>
    obtain ⟨j, v, hj, rfl, rfl, hown, hO⟩ := hrel
    by_cases hlt : j < l.length
    · have hS := H.out.newer hO (by simp)
      have j0 : (0 : Int) ≤ (j : Int) := by omega
      have j1 : (j : Int) < (l.length : Int) := by omega
      have c2 : wr.cell? ⟨k, j * 3 + 2, none⟩ = some (.int .i64 l[j].v.part) := hS.cell j hlt 2 _ rfl
      have TS : Hid ((partsOf l).take (j + 1) = (partsOf l).take j ++ [l[j].v.part]) := Lib.hid (by
        rw [take_snoc _ _ (by rw [partsOf_len]; exact hlt)]
        simp [partsOf])
      generalize l[j].v.part = p at *
      have hsz := hO.size
      clear hS
      go_wp2_with (at_builtin; refine wpList_append_lies _ rfl _ _ _ rfl w.heap.size 3 i0 _ 1 8 Try.underlying22 hi0 hz0 hz1 hz2 rfl (by omega) _ j _ rfl (hown.alloc _) ⟨wr.heap.size, 0, none⟩ 1 1 [.int .i64 p] rfl rfl (World.news_of_block (heap_alloc_new _ _)) (by simp [Value.oneCell']) (by omega) (by simp only [maxLen]; omega) (by omega) (by simp; omega) (wr.heap.size + 1) (by simp) ?_; intro gg cap w5 hown1 hgrow hat hlt2)
      go_roundw
      case rel =>
        refine ⟨j + 1, _, by omega, by go_num, rfl, ?_, (hO.alloc _).grown hgrow fun q hq => .inr (hown.lt q hq).1⟩
        rw [TS.out, List.map_append, List.map_singleton]
        exact hown1
      case measure => simp [intOf]; omega
    · obtain rfl : j = l.length := by omega
      rw [List.take_of_length_le (by rw [partsOf_len]; omega)] at hown
      obtain ⟨A, c, rfl, hl, hat⟩ := own_ints hown
      rw [← hl] at *
      go_wp2
      go_ret
      refine ⟨A, c, rfl, fun i hi => ?_, hO⟩
      obtain ⟨D, hA, _, hD, hc⟩ := hat i hi
      exact ⟨D, 0, hA, hD, by rw [Nat.zero_add]; exact hc⟩

/-! The plain law of Spread. -/
theorem div_add {x y d : Int} (hd : 0 < d) : x / d + y / d ≤ (x + y) / d ∧ (x + y) / d ≤ x / d + y / d + 1 := by
  have a1 := Int.ediv_mul_le x (by omega : d ≠ 0)
  have a2 := Int.ediv_mul_le y (by omega : d ≠ 0)
  have b1 := Int.lt_ediv_add_one_mul_self x hd
  have b2 := Int.lt_ediv_add_one_mul_self y hd
  refine ⟨?_, ?_⟩
  · rw [Int.le_ediv_iff_mul_le hd, Int.add_mul]
    omega
  · have : (x + y) / d < x / d + y / d + 1 + 1 := by
      rw [Int.ediv_lt_iff_lt_mul hd]
      rw [Int.add_mul, Int.one_mul] at b1 b2
      rw [Int.add_mul, Int.add_mul, Int.add_mul, Int.one_mul]
      omega
    omega
theorem spread_diff (ms ps : List Int) (x : Int) (i : Nat) (hx : 0 ≤ x) (hw : 0 < wtTo ps (ps.length - 1)) :
    spreadAt ms ps x i - spreadAt ms ps x (i + 1) - (ms.getD i 0 - ms.getD (i + 1) 0) = x * wtTo ps (i + 1) / wtTo ps (ps.length - 1) - x * wtTo ps i / wtTo ps (ps.length - 1) ∧
    x * wt ps i / wtTo ps (ps.length - 1) ≤ x * wtTo ps (i + 1) / wtTo ps (ps.length - 1) - x * wtTo ps i / wtTo ps (ps.length - 1) ∧
    x * wtTo ps (i + 1) / wtTo ps (ps.length - 1) - x * wtTo ps i / wtTo ps (ps.length - 1) ≤ x * wt ps i / wtTo ps (ps.length - 1) + 1 ∧ 0 ≤ x * wt ps i / wtTo ps (ps.length - 1) := by
  have h := div_add (x := x * wtTo ps i) (y := x * wt ps i) hw
  have e : x * wtTo ps (i + 1) = x * wtTo ps i + x * wt ps i := by rw [wtTo, Int.mul_add]
  rw [e]
  have h4 := Int.ediv_nonneg (Int.mul_nonneg hx (show 0 ≤ wt ps i by have := wt_rng ps i; omega)) (show 0 ≤ wtTo ps (ps.length - 1) by omega)
  unfold spreadAt
  rw [e]
  omega
theorem spread_mono (ps : List Int) {a b : Int} (i : Nat) (hab : a ≤ b) (hw : 0 < wtTo ps (ps.length - 1)) : a * wt ps i / wtTo ps (ps.length - 1) ≤ b * wt ps i / wtTo ps (ps.length - 1) := by
  have h1 := wt_rng ps i
  exact Int.ediv_le_ediv hw (Int.mul_le_mul_of_nonneg_right hab (by omega))
end Go.Proofs.Yticpophdoiljfaa
