/- DERIVED. Vertical: the statements' staves as staves in memory; Height; known. -/
import Derived.Test.YticpophdoiljfaaStkD
namespace Go.Proofs.Yticpophdoiljfaa
open Go.RowKit
attribute [local go_sem ↓] Go.wp_at_zero Go.wp_at_succ

/-- The values of the staves that the statements make. -/
def svs (X : List (List (Int × Int))) (P : List Int) : List SV := (List.range (min X.length 6)).map (svOf X P)
theorem svs_len (X : List (List (Int × Int))) (P : List Int) : (svs X P).length = min X.length 6 := by simp [svs]

theorem getD_rng {X : List (List (Int × Int))} (hr : ∀ i (hi : i < X.length), ∀ p ∈ X[i], (-128 ≤ p.1 ∧ p.1 ≤ 127) ∧ (-128 ≤ p.2 ∧ p.2 ≤ 127)) (i : Nat) : ∀ p ∈ X.getD i [], p.1 ≤ 127 ∧ p.2 ≤ 127 := by
  intro p hp
  by_cases hi : i < X.length
  · rw [show X.getD i [] = X[i] by simp [List.getD, hi]] at hp
    have := hr i hi p hp
    omega
  · rw [show X.getD i [] = [] by simp [List.getD, List.getElem?_eq_none (Nat.not_lt.1 hi)]] at hp
    cases hp

theorem stv_of_coll {W w : World} {X : List (List (Int × Int))} {P : List Int} {v : Value} {l : List StaffR} (hc : Coll W w X P (min X.length 6) v l) (h0 : 0 < X.length)
    (hr : ∀ i (hi : i < X.length), ∀ p ∈ X[i], (-128 ≤ p.1 ∧ p.1 ≤ 127) ∧ (-128 ≤ p.2 ∧ p.2 ≤ 127)) (hP : ∀ x ∈ P, 0 ≤ x ∧ x ≤ 255) :
    ∃ k cap, v = .slice (some ⟨k, 0, none⟩) l.length cap ∧ W.heap.size ≤ k ∧ Stv w k l (ncol X) ∧ l.map StaffR.v = svs X P := by
  have hlen := hc.len
  obtain ⟨g, cap, rfl, hb, hlt⟩ := hc.own.form (by omega)
  have hv : ∀ i (hi : i < l.length), l[i].v = svOf X P i := fun i hi => by
    have h1 : (l.map StaffR.v)[i]? = some l[i].v := by simp [hi]
    rw [hc.vals] at h1
    rw [List.getElem?_map, List.getElem?_range (show i < min X.length 6 by omega)] at h1
    exact (Option.some.inj h1).symm
  refine ⟨g, cap, by rw [hlen], hb, ⟨fun i hi j u hu => ?_, hlt, fun i hi => ?_, by omega, by omega, (ncol_range X).1, (ncol_range X).2, fun i hi => ?_, fun i hi => ?_, fun i hi => ?_⟩, hc.vals⟩
  · have hj : j < 3 := by
      have := (List.getElem?_eq_some_iff.1 hu).1
      simpa [StaffR.cells] using this
    rw [hc.own.cellAt (i * 3 + j) (by omega), rowOf_get l i j hi hj, hu]
  · have := hc.ok l[i] (List.getElem_mem hi)
    exact ⟨this.above, this.below, this.la, this.lb, ⟨Nat.zero_le _, Nat.zero_le _, Nat.zero_le _, Nat.zero_le _⟩⟩
  · rw [hv i hi]
    have := partTo_range hP i
    simp only [svOf]
    omega
  · rw [hv i (by omega), hv (i + 1) hi]
    have := getD_u8 hP (i + 1)
    simp only [svOf, partTo]
    omega
  · rw [hv i hi]
    have h1 := getD_rng hr i
    simp only [svOf]
    refine ⟨colsTo_low fun x hx => ?_, colsTo_low fun x hx => ?_⟩
    · obtain ⟨p, hp, rfl⟩ := List.mem_map.1 hx
      exact (h1 p hp).1
    · obtain ⟨p, hp, rfl⟩ := List.mem_map.1 hx
      exact (h1 p hp).2

set_option maxRecDepth 20000 in
set_option maxHeartbeats 400000 in
theorem Height_any (A : Option Addr) (n c : Nat) (t b d : Int) (w : World) (hd : IntKind.i64.wrap (t - b) = d) :
    Calls Try.prog 26 #[.agg #[.slice A n c, .int .i64 t, .int .i64 b]] w fun e w' => e = .returned (.int .i64 d) ∧ Only [] w w' := by
  go_enter Try.func26, Try.ntmps26
  go_wp2
  go_ret
  exact ⟨rfl, (Only.refl _ _).alloc _⟩

theorem known_cols (w : World) : ColsAt ((((w.alloc (.cells #[.int .i8 2, .int .i8 2] 74)).alloc (.cells #[.int .i8 2, .int .i8 2] 74)).alloc (.cells #[.slice (some ⟨w.heap.size, 0, none⟩) 1 1, .slice (some ⟨w.heap.size + 1, 0, none⟩) 1 1] 75)).alloc (.cells #[.int .u8 0, .int .u8 0] 5)) (some ⟨w.heap.size + 1 + 1, 0, none⟩) [[(2, 2)], [(2, 2)]] ∧ BytesAt ((((w.alloc (.cells #[.int .i8 2, .int .i8 2] 74)).alloc (.cells #[.int .i8 2, .int .i8 2] 74)).alloc (.cells #[.slice (some ⟨w.heap.size, 0, none⟩) 1 1, .slice (some ⟨w.heap.size + 1, 0, none⟩) 1 1] 75)).alloc (.cells #[.int .u8 0, .int .u8 0] 5)) (some ⟨w.heap.size + 1 + 1 + 1, 0, none⟩) [0, 0] := by
  have a0 : Blk ((((w.alloc (.cells #[.int .i8 2, .int .i8 2] 74)).alloc (.cells #[.int .i8 2, .int .i8 2] 74)).alloc (.cells #[.slice (some ⟨w.heap.size, 0, none⟩) 1 1, .slice (some ⟨w.heap.size + 1, 0, none⟩) 1 1] 75)).alloc (.cells #[.int .u8 0, .int .u8 0] 5)) w.heap.size 74 [.int .i8 2, .int .i8 2] := (((Blk.new w _ _).alloc _).alloc _).alloc _
  have a1 : Blk ((((w.alloc (.cells #[.int .i8 2, .int .i8 2] 74)).alloc (.cells #[.int .i8 2, .int .i8 2] 74)).alloc (.cells #[.slice (some ⟨w.heap.size, 0, none⟩) 1 1, .slice (some ⟨w.heap.size + 1, 0, none⟩) 1 1] 75)).alloc (.cells #[.int .u8 0, .int .u8 0] 5)) (w.heap.size + 1) 74 [.int .i8 2, .int .i8 2] := by
    have := ((Blk.new (w.alloc (.cells #[.int .i8 2, .int .i8 2] 74)) 74 [.int .i8 2, .int .i8 2]).alloc (.cells #[.slice (some ⟨w.heap.size, 0, none⟩) 1 1, .slice (some ⟨w.heap.size + 1, 0, none⟩) 1 1] 75)).alloc (.cells #[.int .u8 0, .int .u8 0] 5)
    rw [World.size_alloc] at this
    exact this
  have a2 : Blk ((((w.alloc (.cells #[.int .i8 2, .int .i8 2] 74)).alloc (.cells #[.int .i8 2, .int .i8 2] 74)).alloc (.cells #[.slice (some ⟨w.heap.size, 0, none⟩) 1 1, .slice (some ⟨w.heap.size + 1, 0, none⟩) 1 1] 75)).alloc (.cells #[.int .u8 0, .int .u8 0] 5)) (w.heap.size + 1 + 1) 75 [.slice (some ⟨w.heap.size, 0, none⟩) 1 1, .slice (some ⟨w.heap.size + 1, 0, none⟩) 1 1] := by
    have := (Blk.new ((w.alloc (.cells #[.int .i8 2, .int .i8 2] 74)).alloc (.cells #[.int .i8 2, .int .i8 2] 74)) 75 [.slice (some ⟨w.heap.size, 0, none⟩) 1 1, .slice (some ⟨w.heap.size + 1, 0, none⟩) 1 1]).alloc (.cells #[.int .u8 0, .int .u8 0] 5)
    rw [World.size_alloc, World.size_alloc] at this
    exact this
  have a3 : Blk ((((w.alloc (.cells #[.int .i8 2, .int .i8 2] 74)).alloc (.cells #[.int .i8 2, .int .i8 2] 74)).alloc (.cells #[.slice (some ⟨w.heap.size, 0, none⟩) 1 1, .slice (some ⟨w.heap.size + 1, 0, none⟩) 1 1] 75)).alloc (.cells #[.int .u8 0, .int .u8 0] 5)) (w.heap.size + 1 + 1 + 1) 5 [.int .u8 0, .int .u8 0] := by
    have := Blk.new (((w.alloc (.cells #[.int .i8 2, .int .i8 2] 74)).alloc (.cells #[.int .i8 2, .int .i8 2] 74)).alloc (.cells #[.slice (some ⟨w.heap.size, 0, none⟩) 1 1, .slice (some ⟨w.heap.size + 1, 0, none⟩) 1 1] 75)) 5 [.int .u8 0, .int .u8 0]
    rw [World.size_alloc, World.size_alloc, World.size_alloc] at this
    exact this
  refine ⟨⟨fun i hi => ?_, fun i hi p hp => ?_, by simp, fun i hi => ?_⟩, ⟨fun i hi => ?_, by simp, by simp⟩⟩
  · match i, hi with
    | 0, _ => exact ⟨_, 0, _, 1, rfl, a2.lt, a2.cell 0, fun j hj => by
        obtain rfl : j = 0 := by simpa using hj
        exact ⟨_, 0, rfl, a0.lt, a0.cell 0, a0.cell 1⟩⟩
    | 1, _ => exact ⟨_, 0, _, 1, rfl, a2.lt, a2.cell 1, fun j hj => by
        obtain rfl : j = 0 := by simpa using hj
        exact ⟨_, 0, rfl, a1.lt, a1.cell 0, a1.cell 1⟩⟩
  · match i, hi with
    | 0, _ => obtain rfl : p = (2, 2) := by simpa using hp
              decide
    | 1, _ => obtain rfl : p = (2, 2) := by simpa using hp
              decide
  · match i, hi with
    | 0, _ => simp
    | 1, _ => simp
  · match i, hi with
    | 0, _ => exact ⟨_, 0, rfl, a3.lt, a3.cell 0⟩
    | 1, _ => exact ⟨_, 0, rfl, a3.lt, a3.cell 1⟩

set_option maxRecDepth 20000 in
set_option maxHeartbeats 1000000 in
theorem known_any (w : World) : Calls Try.prog 12 #[] w fun e w' => e = .returned (.bool true) ∧ Only [] w w' := by
  have HK := Lib.hid (known_cols w)
  have HST := Lib.hid (show Calls Try.prog 16 #[.slice (some ⟨w.heap.size + 1 + 1, 0, none⟩) 2 2, .slice (some ⟨w.heap.size + 1 + 1 + 1, 0, none⟩) 2 2] ((((w.alloc (.cells #[.int .i8 2, .int .i8 2] 74)).alloc (.cells #[.int .i8 2, .int .i8 2] 74)).alloc (.cells #[.slice (some ⟨w.heap.size, 0, none⟩) 1 1, .slice (some ⟨w.heap.size + 1, 0, none⟩) 1 1] 75)).alloc (.cells #[.int .u8 0, .int .u8 0] 5)) _ from staves_any (some ⟨w.heap.size + 1 + 1, 0, none⟩) [[(2, 2)], [(2, 2)]] 2 (some ⟨w.heap.size + 1 + 1 + 1, 0, none⟩) [0, 0] 2 HK.out.1 HK.out.2)
  have X0 : Hid (Only [] w ((((w.alloc (.cells #[.int .i8 2, .int .i8 2] 74)).alloc (.cells #[.int .i8 2, .int .i8 2] 74)).alloc (.cells #[.slice (some ⟨w.heap.size, 0, none⟩) 1 1, .slice (some ⟨w.heap.size + 1, 0, none⟩) 1 1] 75)).alloc (.cells #[.int .u8 0, .int .u8 0] 5))) := Lib.hid (((((Only.refl [] w).alloc _).alloc _).alloc _).alloc _)
  go_enter Try.func12, Try.ntmps12
  go_wp2_with fail
  refine HST.out.mono ?_
  rintro e w1 ⟨v, l, rfl, hc⟩
  obtain ⟨k, cap, rfl, hk, hst, hL⟩ := stv_of_coll hc (by simp) HK.out.1.rng HK.out.2.rng
  have X1 := Lib.hid (X0.out.trans hc.only)
  have HL := Lib.hid hL
  have HSTV := Lib.hid hst
  clear hc hk hst hL HST HK X0
  go_wp2_with (first
    | (go_at_call 26; refine (Height_any _ _ _ _ _ 576 _ (by decide)).mono ?_; rintro e w3 ⟨rfl, o3⟩)
    | (go_at_call 17; refine (Stack_ok cap HSTV.out 64 100 (by omega) (by omega) (by omega) (by omega)).mono ?_; rintro e w2 ⟨g, cp, rfl, hg, hgw, hm, o2⟩; rw [show topTo (l.map StaffR.v) 64 100 (l.map StaffR.v).length = 128 by rw [HL.out]; decide, show botTo (l.map StaffR.v) 64 100 (l.map StaffR.v).length = -448 by rw [HL.out]; decide, show (l.map StaffR.v).length = 2 by rw [HL.out]; rfl]; have m1 : w2.cell? ⟨g, 1, none⟩ = some (.int .i64 (-320)) := (hm 1 (by rw [HL.out]; decide)).trans (by rw [show midTo (l.map StaffR.v) 64 100 1 = -320 by rw [HL.out]; decide])))
  go_ret
  exact ⟨rfl, (((X1.out.trans o2).alloc _).trans o3)⟩
end Go.Proofs.Yticpophdoiljfaa
