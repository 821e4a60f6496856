/- DERIVED. Vertical: Check, the distances, the extents, Stack. -/
import Derived.Test.YticpophdoiljfaaStv
import Derived.Test.YticpophdoiljfaaVDist
namespace Go.Proofs.Yticpophdoiljfaa
open Go.RowKit
attribute [local go_sem ↓] Go.wp_at_zero Go.wp_at_succ

/-- Staves in memory: a row at block k; n columns. -/
structure Stv (w : World) (k : Nat) (l : List StaffR) (n : Nat) : Prop where
  cell : ∀ i (hi : i < l.length) j u, (l[i]).cells[j]? = some u → w.cell? ⟨k, i * 3 + j, none⟩ = some u
  lt : k < w.heap.size
  ok : ∀ i (hi : i < l.length), StaffOK w 0 n l[i]
  pos : 0 < l.length
  few : l.length ≤ 6
  npos : 1 ≤ n
  nfew : n ≤ 8
  part : ∀ i (hi : i < l.length), 0 ≤ l[i].v.part ∧ l[i].v.part ≤ 100000
  ord : ∀ i (hi : i + 1 < l.length), l[i].v.part ≤ l[i + 1].v.part
  low : ∀ i (hi : i < l.length), (∀ x ∈ l[i].v.ha, 0 ≤ x ∧ x ≤ 8128) ∧ (∀ x ∈ l[i].v.hb, 0 ≤ x ∧ x ≤ 8128)
theorem Stv.newer {w w' : World} {k n : Nat} {l : List StaffR} {S : List Nat} (h : Stv w k l n) (ho : Only S w w') (hS : ∀ q ∈ S, w.heap.size ≤ q) : Stv w' k l n :=
  ⟨fun i hi j u hu => (ho.cell (p := ⟨k, i * 3 + j, none⟩) h.lt (fun e => absurd h.lt (Nat.not_lt.2 (hS _ e)))).trans (h.cell i hi j u hu), Nat.lt_of_lt_of_le h.lt ho.size, fun i hi => (h.ok i hi).newer ho hS, h.pos, h.few, h.npos, h.nfew, h.part, h.ord, h.low⟩

set_option maxRecDepth 20000 in
theorem ncols_is {w : World} {s g n : Nat} {side : Int} {h : List Int} (hs : Sky w s g side h) (hn : h.length = n) :
    Calls Try.prog 25 #[.pointer (some ⟨s, 0, none⟩)] w fun e w' => e = .returned (.int .i64 n) ∧ w = w' := by
  subst hn
  exact ncols_any hs

set_option maxRecDepth 20000 in
set_option maxHeartbeats 4000000 in
theorem Check_ok {w : World} {k n : Nat} {l : List StaffR} (cap : Nat) (h : Stv w k l n) :
    Calls Try.prog 34 #[.slice (some ⟨k, 0, none⟩) l.length cap] w fun e w' => e = .returned (.int .i64 0) ∧ Only [] w w' := by
  have hp := h.pos
  have hf := h.few
  have H := Lib.hid h
  have nn : ((n : Int) != (n : Int)) = false := by simp
  have l0 : ((l.length : Int) == 0) = false := by rw [beq_eq_false_iff_ne]; omega
  obtain ⟨r0, hr0⟩ : ∃ r, l[0] = r := ⟨_, rfl⟩
  have HR0 := Lib.hid hr0
  clear h hr0
  go_enter Try.func34, Try.ntmps34
  go_wp2
  go_loopw [13] (fun i wr => ∃ j : Nat, j ≤ l.length ∧ i = .int .i64 j ∧ Only [] w wr) (fun i _ => l.length - (intOf i).toNat)
  case atStart => exact ⟨0, by omega, rfl, Only.refl _ _⟩
  case round =>
    obtain ⟨j, hj, rfl, hO⟩ := hrel
    by_cases hlt : j < l.length
    · have hS := H.out.newer hO (by simp)
      have j0 : (0 : Int) ≤ (j : Int) := by omega
      have j1 : (j : Int) < (l.length : Int) := by omega
      have hok := hS.ok j hlt
      have hok0 := hS.ok 0 hp
      have P := hS.part j hlt
      have c0 : wr.cell? ⟨k, j * 3, none⟩ = some (.pointer (some ⟨l[j].sa, 0, none⟩)) := hS.cell j hlt 0 _ rfl
      have c1 : wr.cell? ⟨k, j * 3 + 1, none⟩ = some (.pointer (some ⟨l[j].sb, 0, none⟩)) := hS.cell j hlt 1 _ rfl
      have c2 : wr.cell? ⟨k, j * 3 + 2, none⟩ = some (.int .i64 l[j].v.part) := hS.cell j hlt 2 _ rfl
      rw [HR0.out] at hok0
      have HK0 := Lib.hid hok0
      by_cases hj0 : 0 < j
      · obtain ⟨q, rfl⟩ : ∃ q, j = q + 1 := ⟨j - 1, by omega⟩
        have Po := hS.ord q hlt
        obtain ⟨p1, hp1⟩ : ∃ p, l[q].v.part = p := ⟨_, rfl⟩
        obtain ⟨r, hr⟩ : ∃ r, l[q + 1] = r := ⟨_, rfl⟩
        have HP1 := Lib.hid hp1
        have HR := Lib.hid hr
        rw [hp1, hr] at Po
        rw [hr] at hok P c0 c1 c2
        have HK := Lib.hid hok
        clear hp1 hr hok hok0
        have hSW := hS.newer ((Only.refl [] wr).alloc (.cells #[.pointer (some ⟨r.sa, 0, none⟩), .pointer (some ⟨r.sb, 0, none⟩), .int .i64 r.v.part] 50)) (by simp)
        have hk := hS.lt
        have B0 := Blk.new wr 50 [.pointer (some ⟨r.sa, 0, none⟩), .pointer (some ⟨r.sb, 0, none⟩), .int .i64 r.v.part]
        have X1 := Lib.hid (hO.alloc (.cells #[.pointer (some ⟨r.sa, 0, none⟩), .pointer (some ⟨r.sb, 0, none⟩), .int .i64 r.v.part] 50))
        have HB0 := Lib.hid B0
        have HKW := Lib.hid (HK.out.newer ((Only.refl [] wr).alloc (.cells #[.pointer (some ⟨r.sa, 0, none⟩), .pointer (some ⟨r.sb, 0, none⟩), .int .i64 r.v.part] 50)) (by simp))
        have HKZ := Lib.hid (HK0.out.newer ((Only.refl [] wr).alloc (.cells #[.pointer (some ⟨r.sa, 0, none⟩), .pointer (some ⟨r.sb, 0, none⟩), .int .i64 r.v.part] 50)) (by simp))
        have HSW := Lib.hid hSW
        clear hS hSW B0
        go_wp2_with (first
          | (have _t := tk; go_at_call 45; refine (side_any HKW.out.below).mono ?_; rintro e w' ⟨rfl, rfl⟩)
          | (go_at_call 45; refine (side_any HKW.out.above).mono ?_; rintro e w' ⟨rfl, rfl⟩; have tk := True.intro))
        have y0 := HB0.out.cell 0
        have y1 := HB0.out.cell 1
        have y2 := HB0.out.cell 2
        simp only [List.getElem?_cons_zero, List.getElem?_cons_succ] at y0 y1 y2
        have c0 : (wr.alloc (.cells #[.pointer (some ⟨r.sa, 0, none⟩), .pointer (some ⟨r.sb, 0, none⟩), .int .i64 r.v.part] 50)).cell? ⟨k, (q + 1) * 3, none⟩ = some (.pointer (some ⟨r.sa, 0, none⟩)) := by have := HSW.out.cell (q + 1) hlt 0 _ rfl; rw [HR.out] at this; exact this
        have d0 : (wr.alloc (.cells #[.pointer (some ⟨r.sa, 0, none⟩), .pointer (some ⟨r.sb, 0, none⟩), .int .i64 r.v.part] 50)).cell? ⟨k, 0, none⟩ = some (.pointer (some ⟨r0.sa, 0, none⟩)) := by have := HSW.out.cell 0 hp 0 _ rfl; rw [HR0.out] at this; simpa using this
        have c3 : (wr.alloc (.cells #[.pointer (some ⟨r.sa, 0, none⟩), .pointer (some ⟨r.sb, 0, none⟩), .int .i64 r.v.part] 50)).cell? ⟨k, q * 3 + 2, none⟩ = some (.int .i64 p1) := by have := HSW.out.cell q (by omega) 2 _ rfl; rw [← HP1.out]; exact this
        have h0 : (0 : Int) < ((q + 1 : Nat) : Int) := by omega
        clear tk
        generalize wr.alloc (.cells #[.pointer (some ⟨r.sa, 0, none⟩), .pointer (some ⟨r.sb, 0, none⟩), .int .i64 r.v.part] 50) = W2 at *
        generalize wr.heap.size = Bx at *
        have A1 := Lib.hid (fun i => ncols_is (HKW.out.above.drewN i) HKW.out.la)
        have A2 := Lib.hid (fun i => ncols_is (HKW.out.below.drewN i) HKW.out.lb)
        have A3 := Lib.hid (fun i => ncols_is (HKZ.out.above.drewN i) HKZ.out.la)
        go_quiet ((first
          | (go_at_call 25; with_reducible exact quiet_left (A1.out _))
          | (go_at_call 25; with_reducible exact quiet_left (A2.out _))
          | (go_at_call 25; with_reducible exact quiet_left (A3.out _))))
        go_wp2
        go_quiet (fail)
        go_wp2
        go_roundw
        case rel => exact ⟨q + 1 + 1, by omega, by go_num, X1.out.drewN _⟩
        case measure => simp [intOf]; omega
      · obtain rfl : j = 0 := by omega
        rw [HR0.out] at hok P c0 c1 c2
        obtain ⟨r, rfl⟩ : ∃ r, r = r0 := ⟨_, rfl⟩
        have HK := Lib.hid hok
        clear hok hok0
        have hSW := hS.newer ((Only.refl [] wr).alloc (.cells #[.pointer (some ⟨r.sa, 0, none⟩), .pointer (some ⟨r.sb, 0, none⟩), .int .i64 r.v.part] 50)) (by simp)
        have hk := hS.lt
        have B0 := Blk.new wr 50 [.pointer (some ⟨r.sa, 0, none⟩), .pointer (some ⟨r.sb, 0, none⟩), .int .i64 r.v.part]
        have X1 := Lib.hid (hO.alloc (.cells #[.pointer (some ⟨r.sa, 0, none⟩), .pointer (some ⟨r.sb, 0, none⟩), .int .i64 r.v.part] 50))
        have HB0 := Lib.hid B0
        have HKW := Lib.hid (HK.out.newer ((Only.refl [] wr).alloc (.cells #[.pointer (some ⟨r.sa, 0, none⟩), .pointer (some ⟨r.sb, 0, none⟩), .int .i64 r.v.part] 50)) (by simp))
        have HKZ := Lib.hid (HK0.out.newer ((Only.refl [] wr).alloc (.cells #[.pointer (some ⟨r.sa, 0, none⟩), .pointer (some ⟨r.sb, 0, none⟩), .int .i64 r.v.part] 50)) (by simp))
        have HSW := Lib.hid hSW
        clear hS hSW B0
        go_wp2_with (first
          | (have _t := tk; go_at_call 45; refine (side_any HKW.out.below).mono ?_; rintro e w' ⟨rfl, rfl⟩)
          | (go_at_call 45; refine (side_any HKW.out.above).mono ?_; rintro e w' ⟨rfl, rfl⟩; have tk := True.intro))
        have y0 := HB0.out.cell 0
        have y1 := HB0.out.cell 1
        have y2 := HB0.out.cell 2
        simp only [List.getElem?_cons_zero, List.getElem?_cons_succ] at y0 y1 y2
        have c0 : (wr.alloc (.cells #[.pointer (some ⟨r.sa, 0, none⟩), .pointer (some ⟨r.sb, 0, none⟩), .int .i64 r.v.part] 50)).cell? ⟨k, 0, none⟩ = some (.pointer (some ⟨r.sa, 0, none⟩)) := by have := HSW.out.cell 0 hp 0 _ rfl; rw [HR0.out] at this; simpa using this
        clear tk
        generalize wr.alloc (.cells #[.pointer (some ⟨r.sa, 0, none⟩), .pointer (some ⟨r.sb, 0, none⟩), .int .i64 r.v.part] 50) = W2 at *
        generalize wr.heap.size = Bx at *
        have A1 := Lib.hid (fun i => ncols_is (HKW.out.above.drewN i) HKW.out.la)
        have A2 := Lib.hid (fun i => ncols_is (HKW.out.below.drewN i) HKW.out.lb)
        have A3 := Lib.hid (fun i => ncols_is (HKZ.out.above.drewN i) HKZ.out.la)
        go_quiet ((first
          | (go_at_call 25; with_reducible exact quiet_left (A1.out _))
          | (go_at_call 25; with_reducible exact quiet_left (A2.out _))
          | (go_at_call 25; with_reducible exact quiet_left (A3.out _))))
        go_wp2
        go_quiet (fail)
        go_wp2
        go_roundw
        case rel => exact ⟨0 + 1, by omega, by go_num, X1.out.drewN _⟩
        case measure => simp [intOf]; omega
    · go_wp2
      go_ret
      exact ⟨rfl, hO⟩
end Go.Proofs.Yticpophdoiljfaa
