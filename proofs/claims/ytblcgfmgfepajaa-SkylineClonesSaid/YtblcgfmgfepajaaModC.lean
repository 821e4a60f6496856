/- DERIVED. Contracts of the statements' model, part C: is, do. -/
import Derived.Test.YtblcgfmgfepajaaModB
import Derived.Test.YtblcgfmgfepajaaSkyN
import Derived.Deep.RegionHeld3
import Derived.Deep.DrawnRows
namespace Go.Proofs.Ytblcgfmgfepajaa
open Go.RowKit
attribute [local go_sem ↓] Go.wp_at_zero Go.wp_at_succ

/-- Skyline and model of the same heights, in four different blocks. -/
structure Both (w : World) (s g m k cap : Nat) (sp : List Value) (side : Int) (h : List Int) : Prop where
  sky : Sky w s g side h
  mod : Mod w m k cap sp side h
  sk : s ≠ k
  gm : g ≠ m
  gk : g ≠ k

section
variable {w w' : World} {s g m k cap : Nat} {sp : List Value} {side : Int} {h : List Int}
theorem Both.sm (hb : Both w s g m k cap sp side h) : s ≠ m := hb.sky.head.ne_ hb.mod.head (by decide)
theorem Both.only {S : List Nat} (hb : Both w s g m k cap sp side h) (ho : Only S w w') (h1 : s ∉ S) (h2 : g ∉ S) (h3 : m ∉ S) (h4 : k ∉ S) : Both w' s g m k cap sp side h :=
  ⟨hb.sky.only ho h1 h2, hb.mod.only ho h3 h4, hb.sk, hb.gm, hb.gk⟩
theorem Both.drewN (hb : Both w s g m k cap sp side h) (n : Nat) : Both (w.drewN n) s g m k cap sp side h := ⟨hb.sky.drewN n, hb.mod.drewN n, hb.sk, hb.gm, hb.gk⟩
theorem Both.alloc (hb : Both w s g m k cap sp side h) (o : Obj) : Both (w.alloc o) s g m k cap sp side h := ⟨hb.sky.alloc o, hb.mod.alloc o, hb.sk, hb.gm, hb.gk⟩
theorem Sky.drew (hs : Sky w s g side h) : Sky w.drew s g side h := ⟨hs.head, hs.row, hs.sides, hs.pos, hs.few, hs.low⟩
end

theorem colErr_self {n k : Nat} (hk : k < n) : colErr n k k = 0 := by unfold colErr; split <;> omega
theorem mostV_self {side : Int} {h : List Int} {k : Nat} (hk : k < h.length) : mostV side h k k = side * h[k] := by
  rw [mostV, if_pos (colErr_self hk)]
  congr 1
  rw [← mostTo_all h k k (Nat.le_refl _) hk, mostTo_succ h k k (Nat.le_refl _) hk, mostTo_start h k hk]
  simp

set_option maxHeartbeats 1000000 in
theorem is_any {w : World} {s g m k cap : Nat} {sp : List Value} {side : Int} {h : List Int} (hb : Both w s g m k cap sp side h) :
    Calls Try.prog 26 #[.pointer (some ⟨m, 0, none⟩), .pointer (some ⟨s, 0, none⟩)] w
      fun e w' => e = .returned (.bool true) ∧ ∃ n, w' = w.drewN n := by
  have hc0 := hb.mod.side0
  have hc1 := hb.mod.h0
  have hfew := hb.mod.few
  have b1 : (side != side) = false := by simp
  have b2 : ((h.length : Int) != (h.length : Int)) = false := by simp
  go_enter Try.func26, Try.ntmps26
  go_wp2
  go_quiet ((first
    | (go_at_call 18; exact quiet_left (side_any (hb.sky.drewN _)))
    | (go_at_call 19; exact quiet_left (ncols_any (hb.sky.drewN _)))))
  go_wp2
  go_loopw [5] (fun i wr => ∃ j n : Nat, j ≤ h.length ∧ i = .int .i64 j ∧ wr = w.drewN n) (fun i _ => h.length - (intOf i).toNat)
  case atStart => exact ⟨0, _, Nat.zero_le _, rfl, rfl⟩
  case round =>
    obtain ⟨j, n, hj, rfl, rfl⟩ := hrel
    by_cases hlt : j < h.length
    · have hcj := hb.mod.at_ hlt
      have d1 := colErr_self hlt
      have d2 := mostV_self (side := side) hlt
      have j0 : (0 : Int) ≤ (j : Int) := by omega
      have j1 : (j : Int) < (h.length : Int) := by omega
      have b3 : (side * h[j] != side * h[j]) = false := by simp
      go_wp2_with (go_at_call 17; refine (at_any (hb.sky.drewN _) _).mono ?_; rintro e w' ⟨rfl, n2, rfl⟩)
      go_roundw
      case rel => exact ⟨j + 1, _, by omega, by go_num, rfl⟩
      case measure => simp [intOf]; omega
    · go_wp2
      go_ret
      exact ⟨rfl, _, rfl⟩

/-- An operation as a value. -/
abbrev opV (kd a b c d e l bb r t : Int) : Value := .agg #[.int .u8 kd, .int .i64 a, .int .i64 b, .int .i64 c, .int .i64 d, .int .i64 e, .int .i64 l, .int .i64 bb, .int .i64 r, .int .i64 t]

set_option maxHeartbeats 2000000 in
theorem do0_any {w : World} {s g m k cap : Nat} {sp : List Value} {side : Int} {h : List Int} (hb : Both w s g m k cap sp side h) (kd a b c d e l bb r t : Int) (h0 : 0 ≤ kd) (hk : kd % 3 = 0) :
    Calls Try.prog 42 #[.pointer (some ⟨m, 0, none⟩), .pointer (some ⟨s, 0, none⟩), opV kd a b c d e l bb r t] w
      fun e' w' => e' = .returned (.bool true) ∧ Both w' s g m k cap sp side (raiseH side h a b c) ∧ Only [g, k] w w' := by
  have l1 := hb.sky.head.lt
  have l2 := hb.sky.row.lt
  have l3 := hb.mod.head.lt
  have l4 := hb.mod.row.lt
  go_enter Try.func42, Try.ntmps42
  go_wp2
  have hbox := Blk.new w 43 [.int .u8 kd, .int .i64 a, .int .i64 b, .int .i64 c, .int .i64 d, .int .i64 e, .int .i64 l, .int .i64 bb, .int .i64 r, .int .i64 t]
  have hb' := hb.alloc (.cells #[Value.int .u8 kd, .int .i64 a, .int .i64 b, .int .i64 c, .int .i64 d, .int .i64 e, .int .i64 l, .int .i64 bb, .int .i64 r, .int .i64 t] 43)
  have ho' := (Only.refl [g, k] w).alloc (.cells #[Value.int .u8 kd, .int .i64 a, .int .i64 b, .int .i64 c, .int .i64 d, .int .i64 e, .int .i64 l, .int .i64 bb, .int .i64 r, .int .i64 t] 43)
  generalize w.alloc (.cells #[Value.int .u8 kd, .int .i64 a, .int .i64 b, .int .i64 c, .int .i64 d, .int .i64 e, .int .i64 l, .int .i64 bb, .int .i64 r, .int .i64 t] 43) = W at hbox hb' ho' ⊢
  generalize hB : w.heap.size = B at hbox ⊢
  have ng : B ≠ g := by omega
  have nk : B ≠ k := by omega
  clear hB
  have q1 : W.cell? ⟨B, 1, none⟩ = some (.int .i64 a) := hbox.cell 1
  have q2 : W.cell? ⟨B, 2, none⟩ = some (.int .i64 b) := hbox.cell 2
  have q3 : W.cell? ⟨B, 3, none⟩ = some (.int .i64 c) := hbox.cell 3
  have hlb := hbox.lt
  clear l1 l2 l3 l4 hb
  go_region_held3 (fun w' => w'.cell? ⟨B, 1, none⟩ = some (.int .i64 a) ∧ w'.cell? ⟨B, 2, none⟩ = some (.int .i64 b) ∧ w'.cell? ⟨B, 3, none⟩ = some (.int .i64 c)) (first | exact ⟨q1, q2, q3⟩ | exact ⟨x1, x2, x3⟩ | exact ⟨(ho2.cell (p := ⟨B, 1, none⟩) (Nat.lt_of_lt_of_le hlb ho1.size) (by simpa using nk)).trans x1, (ho2.cell (p := ⟨B, 2, none⟩) (Nat.lt_of_lt_of_le hlb ho1.size) (by simpa using nk)).trans x2, (ho2.cell (p := ⟨B, 3, none⟩) (Nat.lt_of_lt_of_le hlb ho1.size) (by simpa using nk)).trans x3⟩) (first
      | (go_at_call 21; refine (Raise_any hb'.sky.drew _ _ _).mono ?_; rintro e w1 ⟨rfl, hs1, ho1⟩; have x1 := (ho1.cell (p := ⟨B, 1, none⟩) hlb (by simpa using ng)).trans q1; have x2 := (ho1.cell (p := ⟨B, 2, none⟩) hlb (by simpa using ng)).trans q2; have x3 := (ho1.cell (p := ⟨B, 3, none⟩) hlb (by simpa using ng)).trans q3)
      | (go_at_call 34; refine (mraise_any (hb'.mod.drew.only ho1 (by simpa using hb'.gm.symm) (by simpa using hb'.gk.symm)) _ _ _).mono ?_; rintro e w2 ⟨rfl, hm2, ho2⟩))
  go_wp2
  go_ret
  refine ⟨rfl, ⟨hs1.only ho2 (by simpa using hb'.sk) (by simpa using hb'.gk), hm2, hb'.sk, hb'.gm, hb'.gk⟩, ?_⟩
  exact ho'.trans ((Only.refl [g, k] W).drew.trans ((ho1.more (by simp)).trans (ho2.more (by simp))))

set_option maxHeartbeats 2000000 in
theorem do2_any {w : World} {s g m k cap : Nat} {sp : List Value} {side : Int} {h : List Int} (hb : Both w s g m k cap sp side h) (kd a b c d e l bb r t : Int) (h0 : 0 ≤ kd) (hk : kd % 3 = 2) :
    Calls Try.prog 42 #[.pointer (some ⟨m, 0, none⟩), .pointer (some ⟨s, 0, none⟩), opV kd a b c d e l bb r t] w
      fun e' w' => e' = .returned (.bool true) ∧ Both w' s g m k cap sp side (raiseH side h a b (occV side t bb)) ∧ Only [g, k] w w' := by
  have l1 := hb.sky.head.lt
  have l2 := hb.sky.row.lt
  have l3 := hb.mod.head.lt
  have l4 := hb.mod.row.lt
  go_enter Try.func42, Try.ntmps42
  go_wp2
  have hbox := Blk.new w 43 [.int .u8 kd, .int .i64 a, .int .i64 b, .int .i64 c, .int .i64 d, .int .i64 e, .int .i64 l, .int .i64 bb, .int .i64 r, .int .i64 t]
  have hb' := hb.alloc (.cells #[Value.int .u8 kd, .int .i64 a, .int .i64 b, .int .i64 c, .int .i64 d, .int .i64 e, .int .i64 l, .int .i64 bb, .int .i64 r, .int .i64 t] 43)
  have ho' := (Only.refl [g, k] w).alloc (.cells #[Value.int .u8 kd, .int .i64 a, .int .i64 b, .int .i64 c, .int .i64 d, .int .i64 e, .int .i64 l, .int .i64 bb, .int .i64 r, .int .i64 t] 43)
  generalize w.alloc (.cells #[Value.int .u8 kd, .int .i64 a, .int .i64 b, .int .i64 c, .int .i64 d, .int .i64 e, .int .i64 l, .int .i64 bb, .int .i64 r, .int .i64 t] 43) = W at hbox hb' ho' ⊢
  generalize hB : w.heap.size = B at hbox ⊢
  have ng : B ≠ g := by omega
  have nk : B ≠ k := by omega
  clear hB
  have q1 : W.cell? ⟨B, 1, none⟩ = some (.int .i64 a) := hbox.cell 1
  have q2 : W.cell? ⟨B, 2, none⟩ = some (.int .i64 b) := hbox.cell 2
  have q3 : W.cell? ⟨B, 6, none⟩ = some (.int .i64 l) := hbox.cell 6
  have q4 : W.cell? ⟨B, 7, none⟩ = some (.int .i64 bb) := hbox.cell 7
  have q5 : W.cell? ⟨B, 8, none⟩ = some (.int .i64 r) := hbox.cell 8
  have q6 : W.cell? ⟨B, 9, none⟩ = some (.int .i64 t) := hbox.cell 9
  have hlb := hbox.lt
  clear l1 l2 l3 l4 hb
  go_region_held3 (fun w' => w'.cell? ⟨B, 1, none⟩ = some (.int .i64 a) ∧ w'.cell? ⟨B, 2, none⟩ = some (.int .i64 b) ∧ w'.cell? ⟨B, 6, none⟩ = some (.int .i64 l) ∧ w'.cell? ⟨B, 7, none⟩ = some (.int .i64 bb) ∧ w'.cell? ⟨B, 8, none⟩ = some (.int .i64 r) ∧ w'.cell? ⟨B, 9, none⟩ = some (.int .i64 t)) (first | exact ⟨q1, q2, q3, q4, q5, q6⟩ | exact ⟨x1, x2, x3, x4, x5, x6⟩ | exact ⟨(ho2.cell (p := ⟨B, 1, none⟩) (Nat.lt_of_lt_of_le hlb ho1.size) (by simpa using nk)).trans x1, (ho2.cell (p := ⟨B, 2, none⟩) (Nat.lt_of_lt_of_le hlb ho1.size) (by simpa using nk)).trans x2, (ho2.cell (p := ⟨B, 6, none⟩) (Nat.lt_of_lt_of_le hlb ho1.size) (by simpa using nk)).trans x3, (ho2.cell (p := ⟨B, 7, none⟩) (Nat.lt_of_lt_of_le hlb ho1.size) (by simpa using nk)).trans x4, (ho2.cell (p := ⟨B, 8, none⟩) (Nat.lt_of_lt_of_le hlb ho1.size) (by simpa using nk)).trans x5, (ho2.cell (p := ⟨B, 9, none⟩) (Nat.lt_of_lt_of_le hlb ho1.size) (by simpa using nk)).trans x6⟩) (first
      | (go_at_call 47; refine (Occupy_any hb'.sky.drew _ _ _ _ _ _).mono ?_; rintro e w1 ⟨rfl, hs1, ho1⟩; have x1 := (ho1.cell (p := ⟨B, 1, none⟩) hlb (by simpa using ng)).trans q1; have x2 := (ho1.cell (p := ⟨B, 2, none⟩) hlb (by simpa using ng)).trans q2; have x3 := (ho1.cell (p := ⟨B, 6, none⟩) hlb (by simpa using ng)).trans q3; have x4 := (ho1.cell (p := ⟨B, 7, none⟩) hlb (by simpa using ng)).trans q4; have x5 := (ho1.cell (p := ⟨B, 8, none⟩) hlb (by simpa using ng)).trans q5; have x6 := (ho1.cell (p := ⟨B, 9, none⟩) hlb (by simpa using ng)).trans q6)
      | (go_at_call 48; refine (moccupy_any (hb'.mod.drew.only ho1 (by simpa using hb'.gm.symm) (by simpa using hb'.gk.symm)) _ _ _ _ _ _).mono ?_; rintro e w2 ⟨rfl, hm2, ho2⟩))
  go_wp2
  go_ret
  refine ⟨rfl, ⟨hs1.only ho2 (by simpa using hb'.sk) (by simpa using hb'.gk), hm2, hb'.sk, hb'.gm, hb'.gk⟩, ?_⟩
  exact ho'.trans ((Only.refl [g, k] W).drew.trans ((ho1.more (by simp)).trans (ho2.more (by simp))))

set_option maxHeartbeats 2000000 in
theorem do1_any {w : World} {s g m k cap : Nat} {sp : List Value} {side : Int} {h : List Int} (hb : Both w s g m k cap sp side h) (kd a b c d e l bb r t : Int) (h0 : 0 ≤ kd) (hk : kd % 3 = 1) :
    Calls Try.prog 42 #[.pointer (some ⟨m, 0, none⟩), .pointer (some ⟨s, 0, none⟩), opV kd a b c d e l bb r t] w
      fun e' w' => e' = .returned (.bool true) ∧ Both w' s g m k cap sp side (placeH side h a b c d e) ∧ Only [g, k] w w' := by
  have l1 := hb.sky.head.lt
  have l2 := hb.sky.row.lt
  have l3 := hb.mod.head.lt
  have l4 := hb.mod.row.lt
  have HB := Lib.hid (hb.alloc (.cells #[Value.int .u8 kd, .int .i64 a, .int .i64 b, .int .i64 c, .int .i64 d, .int .i64 e, .int .i64 l, .int .i64 bb, .int .i64 r, .int .i64 t] 43))
  have ng : w.heap.size ≠ g := by omega
  have nk : w.heap.size ≠ k := by omega
  have hbox := Blk.new w 43 [.int .u8 kd, .int .i64 a, .int .i64 b, .int .i64 c, .int .i64 d, .int .i64 e, .int .i64 l, .int .i64 bb, .int .i64 r, .int .i64 t]
  go_enter Try.func42, Try.ntmps42
  go_wp2_with (first
      | (go_at_call 22; refine (Place_any HB.out.sky _ _ _ _ _).mono ?_; rintro e w1 ⟨rfl, hs1, ho1⟩; have hbox1 := hbox.only ho1 (by simpa using ng); have x1 := hbox1.cell 1; have x2 := hbox1.cell 2; have x3 := hbox1.cell 3; have x4 := hbox1.cell 4; have x5 := hbox1.cell 5; simp at x1 x2 x3 x4 x5)
      | (go_at_call 46; refine (mplace_any (HB.out.mod.only ho1 (by simpa using HB.out.gm.symm) (by simpa using HB.out.gk.symm)) _ _ _ _ _).mono ?_; rintro e w2 ⟨rfl, hm2, ho2⟩))
  go_ret
  refine ⟨rfl, ⟨hs1.only ho2 (by simpa using HB.out.sk) (by simpa using HB.out.gk), hm2, hb.sk, hb.gm, hb.gk⟩, ?_⟩
  exact ((Only.refl [g, k] w).alloc _).trans ((ho1.more (by simp)).trans (ho2.more (by simp)))

/-- The heights behind an operation. -/
def doH (side : Int) (h : List Int) (kd a b c d e bb t : Int) : List Int :=
  if kd % 3 = 0 then raiseH side h a b c else if kd % 3 = 1 then placeH side h a b c d e else raiseH side h a b (occV side t bb)

theorem do_any {w : World} {s g m k cap : Nat} {sp : List Value} {side : Int} {h : List Int} (hb : Both w s g m k cap sp side h) (kd a b c d e l bb r t : Int) (h0 : 0 ≤ kd) :
    Calls Try.prog 42 #[.pointer (some ⟨m, 0, none⟩), .pointer (some ⟨s, 0, none⟩), opV kd a b c d e l bb r t] w
      fun e' w' => e' = .returned (.bool true) ∧ Both w' s g m k cap sp side (doH side h kd a b c d e bb t) ∧ Only [g, k] w w' := by
  unfold doH
  by_cases c0 : kd % 3 = 0
  · rw [if_pos c0]; exact do0_any hb kd a b c d e l bb r t h0 c0
  · rw [if_neg c0]
    by_cases c1 : kd % 3 = 1
    · rw [if_pos c1]; exact do1_any hb kd a b c d e l bb r t h0 c1
    · rw [if_neg c1]; exact do2_any hb kd a b c d e l bb r t h0 (by omega)
end Go.Proofs.Ytblcgfmgfepajaa
