/- DERIVED. Vertical: the statements' check; VerticalClears' walk. -/
import Derived.Test.YticpophdoiljfaaClr
namespace Go.Proofs.Yticpophdoiljfaa
open Go.RowKit
attribute [local go_sem ↓] Go.wp_at_zero Go.wp_at_succ

set_option maxRecDepth 20000 in
set_option maxHeartbeats 4000000 in
theorem mcheck_ok {w : World} {k n : Nat} {l : List StaffR} (cap : Nat) (h : Stv w k l n) :
    Calls Try.prog 19 #[.slice (some ⟨k, 0, none⟩) l.length cap] w fun e w' => e = .returned (.int .i64 0) ∧ Only [] w w' := by
  have hp := h.pos
  have hf := h.few
  have H := Lib.hid h
  have nn : ((n : Int) != (n : Int)) = false := by simp
  have l0 : ((l.length : Int) == 0) = false := by rw [beq_eq_false_iff_ne]; omega
  obtain ⟨r0, hr0⟩ : ∃ r, l[0] = r := ⟨_, rfl⟩
  have HR0 := Lib.hid hr0
  clear h hr0
  go_enter Try.func19, Try.ntmps19
  have C0 := Lib.hid (ncols_is (H.out.ok 0 hp).above (H.out.ok 0 hp).la)
  have D0 : w.cell? ⟨k, 0, none⟩ = some (.pointer (some ⟨(l[0]).sa, 0, none⟩)) := by simpa using H.out.cell 0 hp 0 _ rfl
  go_wp2_with (go_at_call 25; refine C0.out.mono ?_; rintro e w' ⟨rfl, rfl⟩)
  clear D0
  go_loopw [4] (fun i wr => ∃ j : Nat, j ≤ l.length ∧ i = .int .i64 j ∧ Only [] w wr) (fun i _ => l.length - (intOf i).toNat)
  case atStart => exact ⟨0, by omega, rfl, Only.refl _ _⟩
  case round =>
    obtain ⟨j, hj, rfl, hO⟩ := hrel
    by_cases hlt : j < l.length
    · have hS := H.out.newer hO (by simp)
      have j0 : (0 : Int) ≤ (j : Int) := by omega
      have j1 : (j : Int) < (l.length : Int) := by omega
      have hok := hS.ok j hlt
      have hok0 := hS.ok 0 hp
      have P := hS.part j hlt
      have c0 : wr.cell? ⟨k, j * 3, none⟩ = some (.pointer (some ⟨l[j].sa, 0, none⟩)) := hS.cell j hlt 0 _ rfl
      have c1 : wr.cell? ⟨k, j * 3 + 1, none⟩ = some (.pointer (some ⟨l[j].sb, 0, none⟩)) := hS.cell j hlt 1 _ rfl
      have c2 : wr.cell? ⟨k, j * 3 + 2, none⟩ = some (.int .i64 l[j].v.part) := hS.cell j hlt 2 _ rfl
      rw [HR0.out] at hok0
      have HK0 := Lib.hid hok0
      by_cases hj0 : 0 < j
      · obtain ⟨q, rfl⟩ : ∃ q, j = q + 1 := ⟨j - 1, by omega⟩
        have Po := hS.ord q hlt
        obtain ⟨p1, hp1⟩ : ∃ p, l[q].v.part = p := ⟨_, rfl⟩
        obtain ⟨r, hr⟩ : ∃ r, l[q + 1] = r := ⟨_, rfl⟩
        have HP1 := Lib.hid hp1
        have HR := Lib.hid hr
        rw [hp1, hr] at Po
        rw [hr] at hok P c0 c1 c2
        have HK := Lib.hid hok
        clear hp1 hr hok hok0
        have hSW := hS.newer ((Only.refl [] wr).alloc (.cells #[.pointer (some ⟨r.sa, 0, none⟩), .pointer (some ⟨r.sb, 0, none⟩), .int .i64 r.v.part] 50)) (by simp)
        have hk := hS.lt
        have B0 := Blk.new wr 50 [.pointer (some ⟨r.sa, 0, none⟩), .pointer (some ⟨r.sb, 0, none⟩), .int .i64 r.v.part]
        have X1 := Lib.hid (hO.alloc (.cells #[.pointer (some ⟨r.sa, 0, none⟩), .pointer (some ⟨r.sb, 0, none⟩), .int .i64 r.v.part] 50))
        have HB0 := Lib.hid B0
        have HKW := Lib.hid (HK.out.newer ((Only.refl [] wr).alloc (.cells #[.pointer (some ⟨r.sa, 0, none⟩), .pointer (some ⟨r.sb, 0, none⟩), .int .i64 r.v.part] 50)) (by simp))
        have HKZ := Lib.hid (HK0.out.newer ((Only.refl [] wr).alloc (.cells #[.pointer (some ⟨r.sa, 0, none⟩), .pointer (some ⟨r.sb, 0, none⟩), .int .i64 r.v.part] 50)) (by simp))
        have HSW := Lib.hid hSW
        clear hS hSW B0
        go_wp2_with (first
          | (have _t := tk; go_at_call 45; refine (side_any HKW.out.below).mono ?_; rintro e w' ⟨rfl, rfl⟩)
          | (go_at_call 45; refine (side_any HKW.out.above).mono ?_; rintro e w' ⟨rfl, rfl⟩; have tk := True.intro))
        have y0 := HB0.out.cell 0
        have y1 := HB0.out.cell 1
        have y2 := HB0.out.cell 2
        simp only [List.getElem?_cons_zero, List.getElem?_cons_succ] at y0 y1 y2
        have c0 : (wr.alloc (.cells #[.pointer (some ⟨r.sa, 0, none⟩), .pointer (some ⟨r.sb, 0, none⟩), .int .i64 r.v.part] 50)).cell? ⟨k, (q + 1) * 3, none⟩ = some (.pointer (some ⟨r.sa, 0, none⟩)) := by have := HSW.out.cell (q + 1) hlt 0 _ rfl; rw [HR.out] at this; exact this
        have d0 : (wr.alloc (.cells #[.pointer (some ⟨r.sa, 0, none⟩), .pointer (some ⟨r.sb, 0, none⟩), .int .i64 r.v.part] 50)).cell? ⟨k, 0, none⟩ = some (.pointer (some ⟨r0.sa, 0, none⟩)) := by have := HSW.out.cell 0 hp 0 _ rfl; rw [HR0.out] at this; simpa using this
        have c3 : (wr.alloc (.cells #[.pointer (some ⟨r.sa, 0, none⟩), .pointer (some ⟨r.sb, 0, none⟩), .int .i64 r.v.part] 50)).cell? ⟨k, q * 3 + 2, none⟩ = some (.int .i64 p1) := by have := HSW.out.cell q (by omega) 2 _ rfl; rw [← HP1.out]; exact this
        have h0 : (0 : Int) < ((q + 1 : Nat) : Int) := by omega
        clear tk
        generalize wr.alloc (.cells #[.pointer (some ⟨r.sa, 0, none⟩), .pointer (some ⟨r.sb, 0, none⟩), .int .i64 r.v.part] 50) = W2 at *
        generalize wr.heap.size = Bx at *
        have A1 := Lib.hid (fun i => ncols_is (HKW.out.above.drewN i) HKW.out.la)
        have A2 := Lib.hid (fun i => ncols_is (HKW.out.below.drewN i) HKW.out.lb)
        have A3 := Lib.hid (fun i => ncols_is (HKZ.out.above.drewN i) HKZ.out.la)
        go_wp2_with (first
          | (have _t := tk2; go_at_call 25; refine (A2.out 0).mono ?_; rintro e w' ⟨rfl, rfl⟩)
          | (go_at_call 25; refine (A1.out 0).mono ?_; rintro e w' ⟨rfl, rfl⟩; have tk2 := True.intro))
        go_quiet (fail)
        go_wp2
        go_roundw
        case rel => exact ⟨q + 1 + 1, by omega, by go_num, X1.out.drewN _⟩
        case measure => simp [intOf]; omega
      · obtain rfl : j = 0 := by omega
        rw [HR0.out] at hok P c0 c1 c2
        obtain ⟨r, rfl⟩ : ∃ r, r = r0 := ⟨_, rfl⟩
        have HK := Lib.hid hok
        clear hok hok0
        have hSW := hS.newer ((Only.refl [] wr).alloc (.cells #[.pointer (some ⟨r.sa, 0, none⟩), .pointer (some ⟨r.sb, 0, none⟩), .int .i64 r.v.part] 50)) (by simp)
        have hk := hS.lt
        have B0 := Blk.new wr 50 [.pointer (some ⟨r.sa, 0, none⟩), .pointer (some ⟨r.sb, 0, none⟩), .int .i64 r.v.part]
        have X1 := Lib.hid (hO.alloc (.cells #[.pointer (some ⟨r.sa, 0, none⟩), .pointer (some ⟨r.sb, 0, none⟩), .int .i64 r.v.part] 50))
        have HB0 := Lib.hid B0
        have HKW := Lib.hid (HK.out.newer ((Only.refl [] wr).alloc (.cells #[.pointer (some ⟨r.sa, 0, none⟩), .pointer (some ⟨r.sb, 0, none⟩), .int .i64 r.v.part] 50)) (by simp))
        have HKZ := Lib.hid (HK0.out.newer ((Only.refl [] wr).alloc (.cells #[.pointer (some ⟨r.sa, 0, none⟩), .pointer (some ⟨r.sb, 0, none⟩), .int .i64 r.v.part] 50)) (by simp))
        have HSW := Lib.hid hSW
        clear hS hSW B0
        go_wp2_with (first
          | (have _t := tk; go_at_call 45; refine (side_any HKW.out.below).mono ?_; rintro e w' ⟨rfl, rfl⟩)
          | (go_at_call 45; refine (side_any HKW.out.above).mono ?_; rintro e w' ⟨rfl, rfl⟩; have tk := True.intro))
        have y0 := HB0.out.cell 0
        have y1 := HB0.out.cell 1
        have y2 := HB0.out.cell 2
        simp only [List.getElem?_cons_zero, List.getElem?_cons_succ] at y0 y1 y2
        have c0 : (wr.alloc (.cells #[.pointer (some ⟨r.sa, 0, none⟩), .pointer (some ⟨r.sb, 0, none⟩), .int .i64 r.v.part] 50)).cell? ⟨k, 0, none⟩ = some (.pointer (some ⟨r.sa, 0, none⟩)) := by have := HSW.out.cell 0 hp 0 _ rfl; rw [HR0.out] at this; simpa using this
        clear tk
        generalize wr.alloc (.cells #[.pointer (some ⟨r.sa, 0, none⟩), .pointer (some ⟨r.sb, 0, none⟩), .int .i64 r.v.part] 50) = W2 at *
        generalize wr.heap.size = Bx at *
        have A1 := Lib.hid (fun i => ncols_is (HKW.out.above.drewN i) HKW.out.la)
        have A2 := Lib.hid (fun i => ncols_is (HKW.out.below.drewN i) HKW.out.lb)
        have A3 := Lib.hid (fun i => ncols_is (HKZ.out.above.drewN i) HKZ.out.la)
        go_wp2_with (first
          | (have _t := tk2; go_at_call 25; refine (A2.out 0).mono ?_; rintro e w' ⟨rfl, rfl⟩)
          | (go_at_call 25; refine (A1.out 0).mono ?_; rintro e w' ⟨rfl, rfl⟩; have tk2 := True.intro))
        go_quiet (fail)
        go_wp2
        go_roundw
        case rel => exact ⟨0 + 1, by omega, by go_num, X1.out.drewN _⟩
        case measure => simp [intOf]; omega
    · go_wp2
      go_ret
      exact ⟨rfl, hO⟩

theorem own_slice {w : World} {base n size : Nat} {e : TypeId} {v : Value} {xs : List Value} (h : w.ownsRow base e size v n xs) : ∃ A c, v = .slice A n c := by
  rcases h.2 with ⟨rfl, rfl⟩ | ⟨g, cap, cur, rfl, _⟩
  · exact ⟨_, _, rfl⟩
  · exact ⟨_, _, rfl⟩
set_option maxRecDepth 20000 in
set_option maxHeartbeats 400000 in
theorem Check_nil (A : Option Addr) (c : Nat) (w : World) : Calls Try.prog 34 #[.slice A 0 c] w fun e w' => e = .returned (.int .i64 4) ∧ Only [] w w' := by
  go_enter Try.func34, Try.ntmps34
  go_wp2
  go_ret
  exact ⟨rfl, Only.refl _ _⟩
set_option maxRecDepth 20000 in
set_option maxHeartbeats 400000 in
theorem mcheck_nil (A : Option Addr) (c : Nat) (w : World) : Calls Try.prog 19 #[.slice A 0 c] w fun e w' => e = .returned (.int .i64 4) ∧ Only [] w w' := by
  go_enter Try.func19, Try.ntmps19
  go_wp2
  go_ret
  exact ⟨rfl, Only.refl _ _⟩
set_option maxRecDepth 20000 in
set_option maxHeartbeats 1000000 in
theorem Clear_nil (A A' : Option Addr) (c n c' : Nat) (t b gap : Int) (w : World) : Calls Try.prog 18 #[.slice A 0 c, sysV A' n c' t b, .int .i64 gap] w fun e w' => e = .returned (.bool false) ∧ Only [] w w' := by
  go_enter Try.func18, Try.ntmps18
  go_wp2_with (go_at_call 34; refine (Check_nil _ _ _).mono ?_; rintro e w1 ⟨rfl, o1⟩)
  go_ret
  exact ⟨rfl, ((Only.refl [] w).alloc _).trans o1⟩

theorem clr_clear {l : List StaffR} {ms : List Int} {t b gap : Int} (hp : Proper ms t b) (hl : ms.length = l.length) (g0 : 0 ≤ gap) (g1 : gap ≤ 65536) : clrB l ms t b gap = clearB l ms gap := by
  by_cases h : ClearP l ms gap
  · rw [clearB_true h, clrB_true ⟨hp, hl, ⟨g0, g1⟩, h⟩]
  · rw [clearB_false h, clrB_false fun hh => h hh.2.2.2]

set_option maxRecDepth 20000 in
set_option maxHeartbeats 8000000 in
theorem clears_any {w : World} {A : Option Addr} {X : List (List (Int × Int))} (cx : Nat) (hX : ColsAt w A X) {A' : Option Addr} {ms : List Int} (c : Nat) (t b gap : Int) (hI : IntsAt w A' ms) (hl : ms.length ≤ 9223372036854775807) :
    Calls Try.prog 5 #[.slice A X.length cx, sysV A' ms.length c t b, .int .i64 gap] w fun e w' => e = .returned (.bool true) ∧ Only [] w w' := by
  have XF := hX.few
  have XO := Lib.hid ((Only.refl [] w).alloc (sysBox A' ms.length c t b))
  have HB := Lib.hid (Blk.new w 24 [.slice A' ms.length c, .int .i64 t, .int .i64 b])
  have HI := Lib.hid (hI.only XO.out (by simp))
  have HX := Lib.hid (hX.only XO.out (by simp))
  clear hI hX
  by_cases h8 : 8 < ms.length
  · go_enter Try.func5, Try.ntmps5
    go_wp2_with (first
      | (have _t := b20; go_at_call 12; refine (known_any _).mono ?_; rintro e w3 ⟨rfl, o3⟩)
      | (go_at_call 16; refine (staves_any A X cx none [] 0 HX.out (BytesAt.none_ _)).mono ?_; rintro e w1 ⟨v, l, rfl, hc⟩; obtain ⟨b1, b10, b11, b12⟩ := sys_cells HB.out hc.only; skip)
      | (go_at_call 12; refine (known_any _).mono ?_; rintro e w2 ⟨rfl, o2⟩; obtain ⟨b2, b20, b21, b22⟩ := sys_cells b1 o2))
    go_ret
    exact ⟨rfl, ((XO.out.trans hc.only).trans o2).trans o3⟩
  · by_cases hz : 0 < X.length
    · have HZ := Lib.hid hz
      rcases properB_cases ms t b with ⟨hp, hpb⟩ | ⟨hp, hpb⟩
      · have HP := Lib.hid hp
        have HPB := Lib.hid hpb
        clear hp hpb
        obtain ⟨m, hm⟩ : ∃ m, min X.length 6 = m := ⟨_, rfl⟩
        have HM := Lib.hid hm
        by_cases hlm : ms.length = m
        · have HLM := Lib.hid hlm
          have hlm1 : ms.length ≤ m := Nat.le_of_eq hlm
          have hlm2 : m ≤ ms.length := Nat.le_of_eq hlm.symm
          clear hlm hm
          by_cases g0 : 0 ≤ gap
          · by_cases g1 : gap ≤ 65536
            · skip
              go_enter Try.func5, Try.ntmps5
              go_wp2_with (first
                | (go_at_call 16; refine (staves_any A X cx none [] 0 HX.out (BytesAt.none_ _)).mono ?_; rintro e w1 ⟨v, l, rfl, hc⟩; obtain ⟨b1, b10, b11, b12⟩ := sys_cells HB.out hc.only; obtain ⟨k, cap, rfl, hk, hst, hL⟩ := stv_of_coll hc HZ.out HX.out.rng (by simp); have HST := Lib.hid hst; have hlm' : ms.length = l.length := HLM.out.trans (HM.out.symm.trans hc.len.symm); have HLL := Lib.hid hlm'; have q1 : ((ms.length : Int) == (l.length : Int)) = true := (by rw [beq_iff_eq]; omega); clear hlm')
                | (go_at_call 12; refine (known_any _).mono ?_; rintro e w2 ⟨rfl, o2⟩; obtain ⟨b2, b20, b21, b22⟩ := sys_cells b1 o2)
                | (go_at_call 19; refine (mcheck_ok cap (HST.out.newer o2 (by simp))).mono ?_; rintro e w3 ⟨rfl, o3⟩; obtain ⟨b3, b30, b31, b32⟩ := sys_cells b2 o3)
                | (go_at_call 14; refine (mproper_any c t b (HI.out.only ((hc.only.trans o2).trans o3) (by simp)) (by omega)).mono ?_; rintro e w4 ⟨rfl, o4⟩; rw [HPB.out]; obtain ⟨b4, b40, b41, b42⟩ := sys_cells b3 o4)
                | (go_at_call 20; refine (mclear_any cap (HST.out.newer ((o2.trans o3).trans o4) (by simp)) c t b gap (HI.out.only (((hc.only.trans o2).trans o3).trans o4) (by simp)) (by omega) HP.out HLL.out g0 g1).mono ?_; rintro e w6 ⟨rfl, o6⟩; obtain ⟨b6, b60, b61, b62⟩ := sys_cells b4 o6)
                | (go_at_call 18; refine (Clear_any cap (HST.out.newer (((o2.trans o3).trans o4).trans o6) (by simp)) c t b gap (HI.out.only ((((hc.only.trans o2).trans o3).trans o4).trans o6) (by simp)) (by omega)).mono ?_; rintro e w5 ⟨rfl, o5⟩; rw [clr_clear HP.out HLL.out g0 g1]))
              all_goals
                go_ret
                exact ⟨ret_bool (by simp), (((((XO.out.trans hc.only).trans o2).trans o3).trans o4).trans o6).trans o5⟩
            · have HG := Lib.hid g1
              go_enter Try.func5, Try.ntmps5
              go_wp2_with (first
                | (go_at_call 16; refine (staves_any A X cx none [] 0 HX.out (BytesAt.none_ _)).mono ?_; rintro e w1 ⟨v, l, rfl, hc⟩; obtain ⟨b1, b10, b11, b12⟩ := sys_cells HB.out hc.only; obtain ⟨k, cap, rfl, hk, hst, hL⟩ := stv_of_coll hc HZ.out HX.out.rng (by simp); have HST := Lib.hid hst; have hlm' : ms.length = l.length := HLM.out.trans (HM.out.symm.trans hc.len.symm); have HLL := Lib.hid hlm'; have q1 : ((ms.length : Int) == (l.length : Int)) = true := (by rw [beq_iff_eq]; omega); clear hlm')
                | (go_at_call 12; refine (known_any _).mono ?_; rintro e w2 ⟨rfl, o2⟩; obtain ⟨b2, b20, b21, b22⟩ := sys_cells b1 o2)
                | (go_at_call 19; refine (mcheck_ok cap (HST.out.newer o2 (by simp))).mono ?_; rintro e w3 ⟨rfl, o3⟩; obtain ⟨b3, b30, b31, b32⟩ := sys_cells b2 o3)
                | (go_at_call 14; refine (mproper_any c t b (HI.out.only ((hc.only.trans o2).trans o3) (by simp)) (by omega)).mono ?_; rintro e w4 ⟨rfl, o4⟩; rw [HPB.out]; obtain ⟨b4, b40, b41, b42⟩ := sys_cells b3 o4)
                | (go_at_call 18; refine (Clear_any cap (HST.out.newer ((o2.trans o3).trans o4) (by simp)) c t b gap (HI.out.only (((hc.only.trans o2).trans o3).trans o4) (by simp)) (by omega)).mono ?_; rintro e w5 ⟨rfl, o5⟩; rw [clrB_false (l := l) (ms := ms) (t := t) (b := b) (gap := gap) (fun hh => by have := HG.out; have := hh.2.2.1; omega)]))
              go_ret
              exact ⟨(by first | rfl | exact ret_bool (by have := HG.out; simp; omega)), ((((XO.out.trans hc.only).trans o2).trans o3).trans o4).trans o5⟩
          · have HG := Lib.hid g0
            go_enter Try.func5, Try.ntmps5
            go_wp2_with (first
              | (go_at_call 16; refine (staves_any A X cx none [] 0 HX.out (BytesAt.none_ _)).mono ?_; rintro e w1 ⟨v, l, rfl, hc⟩; obtain ⟨b1, b10, b11, b12⟩ := sys_cells HB.out hc.only; obtain ⟨k, cap, rfl, hk, hst, hL⟩ := stv_of_coll hc HZ.out HX.out.rng (by simp); have HST := Lib.hid hst; have hlm' : ms.length = l.length := HLM.out.trans (HM.out.symm.trans hc.len.symm); have HLL := Lib.hid hlm'; have q1 : ((ms.length : Int) == (l.length : Int)) = true := (by rw [beq_iff_eq]; omega); clear hlm')
              | (go_at_call 12; refine (known_any _).mono ?_; rintro e w2 ⟨rfl, o2⟩; obtain ⟨b2, b20, b21, b22⟩ := sys_cells b1 o2)
              | (go_at_call 19; refine (mcheck_ok cap (HST.out.newer o2 (by simp))).mono ?_; rintro e w3 ⟨rfl, o3⟩; obtain ⟨b3, b30, b31, b32⟩ := sys_cells b2 o3)
              | (go_at_call 14; refine (mproper_any c t b (HI.out.only ((hc.only.trans o2).trans o3) (by simp)) (by omega)).mono ?_; rintro e w4 ⟨rfl, o4⟩; rw [HPB.out]; obtain ⟨b4, b40, b41, b42⟩ := sys_cells b3 o4)
              | (go_at_call 18; refine (Clear_any cap (HST.out.newer ((o2.trans o3).trans o4) (by simp)) c t b gap (HI.out.only (((hc.only.trans o2).trans o3).trans o4) (by simp)) (by omega)).mono ?_; rintro e w5 ⟨rfl, o5⟩; rw [clrB_false (l := l) (ms := ms) (t := t) (b := b) (gap := gap) (fun hh => by have := HG.out; have := hh.2.2.1; omega)]))
            go_ret
            exact ⟨(by first | rfl | exact ret_bool (by have := HG.out; simp; omega)), ((((XO.out.trans hc.only).trans o2).trans o3).trans o4).trans o5⟩
        · have HLM := Lib.hid hlm
          clear hm
          have hne : ms.length < m ∨ m < ms.length := by omega
          clear hlm
          go_enter Try.func5, Try.ntmps5
          go_wp2_with (first
            | (go_at_call 16; refine (staves_any A X cx none [] 0 HX.out (BytesAt.none_ _)).mono ?_; rintro e w1 ⟨v, l, rfl, hc⟩; obtain ⟨b1, b10, b11, b12⟩ := sys_cells HB.out hc.only; obtain ⟨k, cap, rfl, hk, hst, hL⟩ := stv_of_coll hc HZ.out HX.out.rng (by simp); have HST := Lib.hid hst; have hlm' : ¬ ms.length = l.length := (fun h => HLM.out (h.trans (hc.len.trans HM.out))); have HLL := Lib.hid hlm'; have q1 : ((ms.length : Int) == (l.length : Int)) = false := (by rw [beq_eq_false_iff_ne]; omega); clear hlm')
            | (go_at_call 12; refine (known_any _).mono ?_; rintro e w2 ⟨rfl, o2⟩; obtain ⟨b2, b20, b21, b22⟩ := sys_cells b1 o2)
            | (go_at_call 19; refine (mcheck_ok cap (HST.out.newer o2 (by simp))).mono ?_; rintro e w3 ⟨rfl, o3⟩; obtain ⟨b3, b30, b31, b32⟩ := sys_cells b2 o3)
            | (go_at_call 14; refine (mproper_any c t b (HI.out.only ((hc.only.trans o2).trans o3) (by simp)) (by omega)).mono ?_; rintro e w4 ⟨rfl, o4⟩; rw [HPB.out]; obtain ⟨b4, b40, b41, b42⟩ := sys_cells b3 o4)
            | (go_at_call 18; refine (Clear_any cap (HST.out.newer ((o2.trans o3).trans o4) (by simp)) c t b gap (HI.out.only (((hc.only.trans o2).trans o3).trans o4) (by simp)) (by omega)).mono ?_; rintro e w5 ⟨rfl, o5⟩; rw [clrB_false (l := l) (ms := ms) (t := t) (b := b) (gap := gap) (fun hh => HLL.out hh.2.1)]))
          go_ret
          exact ⟨(by first | rfl | exact ret_bool (by have := HG.out; simp; omega)), ((((XO.out.trans hc.only).trans o2).trans o3).trans o4).trans o5⟩
      · have HP := Lib.hid hp
        have HPB := Lib.hid hpb
        clear hp hpb
        go_enter Try.func5, Try.ntmps5
        go_wp2_with (first
          | (go_at_call 16; refine (staves_any A X cx none [] 0 HX.out (BytesAt.none_ _)).mono ?_; rintro e w1 ⟨v, l, rfl, hc⟩; obtain ⟨b1, b10, b11, b12⟩ := sys_cells HB.out hc.only; obtain ⟨k, cap, rfl, hk, hst, hL⟩ := stv_of_coll hc HZ.out HX.out.rng (by simp); have HST := Lib.hid hst)
          | (go_at_call 12; refine (known_any _).mono ?_; rintro e w2 ⟨rfl, o2⟩; obtain ⟨b2, b20, b21, b22⟩ := sys_cells b1 o2)
          | (go_at_call 19; refine (mcheck_ok cap (HST.out.newer o2 (by simp))).mono ?_; rintro e w3 ⟨rfl, o3⟩; obtain ⟨b3, b30, b31, b32⟩ := sys_cells b2 o3)
          | (go_at_call 14; refine (mproper_any c t b (HI.out.only ((hc.only.trans o2).trans o3) (by simp)) (by omega)).mono ?_; rintro e w4 ⟨rfl, o4⟩; rw [HPB.out]; obtain ⟨b4, b40, b41, b42⟩ := sys_cells b3 o4)
          | (go_at_call 18; refine (Clear_any cap (HST.out.newer ((o2.trans o3).trans o4) (by simp)) c t b gap (HI.out.only (((hc.only.trans o2).trans o3).trans o4) (by simp)) (by omega)).mono ?_; rintro e w5 ⟨rfl, o5⟩; rw [clrB_false (l := l) (ms := ms) (t := t) (b := b) (gap := gap) (fun hh => HP.out hh.1)]))
        go_ret
        exact ⟨(by first | rfl | exact ret_bool (by have := HG.out; simp; omega)), ((((XO.out.trans hc.only).trans o2).trans o3).trans o4).trans o5⟩
    · have hx0 : min X.length 6 = 0 := by omega
      have HX0 := Lib.hid hx0
      clear hx0
      go_enter Try.func5, Try.ntmps5
      go_wp2_with (first
        | (go_at_call 16; refine (staves_any A X cx none [] 0 HX.out (BytesAt.none_ _)).mono ?_; rintro e w1 ⟨v, l, rfl, hc⟩; obtain ⟨b1, b10, b11, b12⟩ := sys_cells HB.out hc.only; obtain ⟨A1, c1, rfl⟩ := own_slice hc.own; rw [HX0.out])
        | (go_at_call 12; refine (known_any _).mono ?_; rintro e w2 ⟨rfl, o2⟩; obtain ⟨b2, b20, b21, b22⟩ := sys_cells b1 o2)
        | (go_at_call 19; refine (mcheck_nil _ _ _).mono ?_; rintro e w3 ⟨rfl, o3⟩; obtain ⟨b3, b30, b31, b32⟩ := sys_cells b2 o3)
        | (go_at_call 18; refine (Clear_nil _ _ _ _ _ _ _ _ _).mono ?_; rintro e w5 ⟨rfl, o5⟩))
      go_ret
      exact ⟨rfl, (((XO.out.trans hc.only).trans o2).trans o3).trans o5⟩
end Go.Proofs.Yticpophdoiljfaa
