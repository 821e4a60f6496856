/- DERIVED. Vertical: Nearest; VerticalNearest's walk. -/
import Derived.Test.YticpophdoiljfaaPrp
namespace Go.Proofs.Yticpophdoiljfaa
open Go.RowKit
attribute [local go_sem ↓] Go.wp_at_zero Go.wp_at_succ

/-- How far a height is from middle line i. -/
def distN (ms : List Int) (h : Int) (i : Nat) : Int := max (h - ms.getD i 0) (-(h - ms.getD i 0))
/-- The nearest of the first k middle lines. -/
def nearTo (ms : List Int) (h : Int) : Nat → Nat
  | 0 => 0
  | k + 1 => if distN ms h k < distN ms h (nearTo ms h k) then k else nearTo ms h k
theorem nearTo_lt (ms : List Int) (h : Int) : ∀ k, nearTo ms h (k + 1) < k + 1
  | 0 => by simp [nearTo]
  | k + 1 => by
    have := nearTo_lt ms h k
    rw [nearTo]
    split <;> omega
theorem nearTo_one (ms : List Int) (h : Int) : nearTo ms h 1 = 0 := by simp [nearTo]

section
variable {w : World} {A : Option Addr} {ms : List Int}
theorem IntsAt.flat (hI : IntsAt w A ms) (hz : 0 < ms.length) : ∃ bA off, A = some ⟨bA, off, none⟩ ∧ bA < w.heap.size ∧ ∀ i (hi : i < ms.length), w.cell? ⟨bA, off + i, none⟩ = some (.int .i64 ms[i]) := by
  obtain ⟨bA, off, rfl, hb, -⟩ := hI 0 hz
  refine ⟨bA, off, rfl, hb, fun i hi => ?_⟩
  obtain ⟨b', off', hA, hb', hc⟩ := hI i hi
  simp only [Option.some.injEq, Addr.mk.injEq, and_true] at hA
  obtain ⟨rfl, rfl⟩ := hA
  exact hc
end

set_option maxRecDepth 20000 in
set_option maxHeartbeats 1000000 in
theorem near_bad {w : World} {A : Option Addr} {ms : List Int} (c : Nat) (t b h : Int) (hI : IntsAt w A ms) (hl : ms.length ≤ 8) (hp : properB ms t b = false) :
    Calls Try.prog 13 #[sysV A ms.length c t b, .int .i64 h] w fun e w' => e = .returned (.tuple #[.int .i64 0, .int .i64 0, .int .i64 3]) ∧ Only [] w w' := by
  have X := Lib.hid ((Only.refl [] w).alloc (sysBox A ms.length c t b))
  have HV := Lib.hid (vproper_any c t b (hI.only X.out (by simp)) hl)
  rw [hp] at HV
  clear hI hp
  go_enter Try.func13, Try.ntmps13
  go_wp2_with (go_at_call 35; refine HV.out.mono ?_; rintro e w1 ⟨rfl, o1⟩)
  go_ret3
  exact ⟨rfl, X.out.trans o1⟩

set_option maxRecDepth 20000 in
set_option maxHeartbeats 1000000 in
theorem near_range {w : World} {A : Option Addr} {ms : List Int} (c : Nat) (t b h : Int) (hI : IntsAt w A ms) (hl : ms.length ≤ 8) (hp : properB ms t b = true) (hh : h < -1073741824 ∨ 1073741824 < h) :
    Calls Try.prog 13 #[sysV A ms.length c t b, .int .i64 h] w fun e w' => e = .returned (.tuple #[.int .i64 0, .int .i64 0, .int .i64 2]) ∧ Only [] w w' := by
  have X := Lib.hid ((Only.refl [] w).alloc (sysBox A ms.length c t b))
  have HV := Lib.hid (vproper_any c t b (hI.only X.out (by simp)) hl)
  rw [hp] at HV
  clear hI hp
  rcases hh with hh | hh
  · go_enter Try.func13, Try.ntmps13
    go_wp2_with (go_at_call 35; refine HV.out.mono ?_; rintro e w1 ⟨rfl, o1⟩)
    go_ret3
    exact ⟨rfl, X.out.trans o1⟩
  · have hn : ¬ h < -1073741824 := by omega
    go_enter Try.func13, Try.ntmps13
    go_wp2_with (go_at_call 35; refine HV.out.mono ?_; rintro e w1 ⟨rfl, o1⟩)
    go_ret3
    exact ⟨rfl, X.out.trans o1⟩

set_option maxRecDepth 20000 in
set_option maxHeartbeats 2000000 in
theorem near_ok {w : World} {A : Option Addr} {ms : List Int} (c : Nat) (t b h : Int) (hI : IntsAt w A ms) (hl : ms.length ≤ 8) (hp : Proper ms t b) (h1 : -1073741824 ≤ h) (h2 : h ≤ 1073741824) :
    Calls Try.prog 13 #[sysV A ms.length c t b, .int .i64 h] w
      fun e w' => e = .returned (.tuple #[.int .i64 (nearTo ms h ms.length), .int .i64 (h - ms.getD (nearTo ms h ms.length) 0), .int .i64 0]) ∧ Only [] w w' := by
  have X := Lib.hid ((Only.refl [] w).alloc (sysBox A ms.length c t b))
  have HV := Lib.hid (vproper_any c t b (hI.only X.out (by simp)) hl)
  have HB := Lib.hid (Blk.new w 24 [.slice A ms.length c, .int .i64 t, .int .i64 b])
  rw [properB_true hp] at HV
  have HP := Lib.hid hp
  have HI := Lib.hid hI
  have hz := hp.pos
  clear hI hp
  go_enter Try.func13, Try.ntmps13
  go_wp2_with (go_at_call 35; refine HV.out.mono ?_; rintro e w1 ⟨rfl, o1⟩; have hb1 := HB.out.only o1 (by simp); have b0 := hb1.cell 0; simp at b0)
  obtain ⟨bA, off, rfl, hbA, hc⟩ := (HI.out.only (X.out.trans o1) (by simp)).flat hz
  have HC := Lib.hid hc
  clear hc hb1
  go_loop [4, 5, 7, 23] (fun s d l i => ∃ j : Nat, j ≤ ms.length ∧ i = .int .i64 j ∧ ((j = 0 ∧ s = .int .i64 0 ∧ d = .int .i64 0 ∧ l = .int .i64 (-1)) ∨ (0 < j ∧ s = .int .i64 (nearTo ms h j) ∧ d = .int .i64 (h - ms.getD (nearTo ms h j) 0) ∧ l = .int .i64 (distN ms h (nearTo ms h j))))) (fun _ _ _ i => ms.length - (intOf i).toNat)
  case atStart => exact ⟨0, by omega, rfl, .inl ⟨rfl, rfl, rfl, rfl⟩⟩
  case round =>
    obtain ⟨j, hj, rfl, hr⟩ := hrel
    by_cases hlt : j < ms.length
    · have mj := HC.out j hlt
      have rj := HP.out.rng j hlt
      have j0 : (0 : Int) ≤ (j : Int) := by omega
      have j1 : (j : Int) < (ms.length : Int) := by omega
      have HD : Hid (distN ms h j = max (h - ms[j]) (-(h - ms[j]))) := Lib.hid (by rw [distN, getD_get hlt])
      have HG := Lib.hid (getD_get hlt)
      generalize ms[j] = m at *
      obtain ⟨d, hd⟩ : ∃ d, (if h - m < m - h then m - h else h - m) = d := ⟨_, rfl⟩
      have HD2 : Hid (distN ms h j = d) := Lib.hid (by rw [HD.out, ← hd]; omega)
      have NT : Hid (nearTo ms h (j + 1) = if distN ms h j < distN ms h (nearTo ms h j) then j else nearTo ms h j) := Lib.hid rfl
      rcases hr with ⟨rfl, rfl, rfl, rfl⟩ | ⟨hj0, rfl, rfl, rfl⟩
      · rw [Nat.add_zero] at mj
        go_wp2
        go_round
        case rel => exact ⟨0 + 1, by omega, by go_num, .inr ⟨by omega, by rw [nearTo_one], by rw [nearTo_one, HG.out], by rw [nearTo_one, HD2.out]⟩⟩
        case measure => simp [intOf]; omega
      · obtain ⟨b1, hb1⟩ : ∃ b, nearTo ms h j = b := ⟨_, rfl⟩
        have HB1 := Lib.hid hb1
        rw [hb1] at NT ⊢
        obtain ⟨l1, hl1⟩ : ∃ l, distN ms h b1 = l := ⟨_, rfl⟩
        have hl0 : 0 ≤ l1 := by rw [← hl1, distN]; omega
        have HL1 := Lib.hid hl1
        rw [hl1] at NT ⊢
        rw [HD2.out] at NT
        clear hb1 hl1
        by_cases hlt2 : d < l1
        · have N2 := Lib.hid (NT.out.trans (if_pos hlt2))
          clear NT
          go_wp2
          go_round
          case rel => exact ⟨j + 1, by omega, by go_num, .inr ⟨by omega, by rw [N2.out], by rw [N2.out, HG.out], by rw [N2.out, HD2.out]⟩⟩
          case measure => simp [intOf]; omega
        · have N2 := Lib.hid (NT.out.trans (if_neg hlt2))
          clear NT
          go_wp2
          go_round
          case rel => exact ⟨j + 1, by omega, by go_num, .inr ⟨by omega, by rw [N2.out], by rw [N2.out]; rfl, by rw [N2.out, HL1.out]⟩⟩
          case measure => simp [intOf]; omega
    · obtain rfl : j = ms.length := by omega
      rcases hr with ⟨h0, -⟩ | ⟨-, rfl, rfl, rfl⟩
      · omega
      · go_wp2
        go_ret3
        exact ⟨rfl, X.out.trans o1⟩

set_option maxRecDepth 20000 in
set_option maxHeartbeats 400000 in
theorem abs_any (x : Int) (h1 : -9000000000 ≤ x) (h2 : x ≤ 9000000000) (w : World) : Calls Try.prog 15 #[.int .i64 x] w fun e w' => e = .returned (.int .i64 (max x (-x))) ∧ w = w' := by
  obtain ⟨m, hm⟩ : ∃ m, (if x < -x then -x else x) = m := ⟨_, rfl⟩
  have HM : Hid (max x (-x) = m) := Lib.hid (by omega)
  go_enter Try.func15, Try.ntmps15
  go_wp2
  go_ret
  exact ⟨ret_int HM.out.symm, rfl⟩

theorem sys_cells {W W' : World} {B : Nat} {A : Option Addr} {n c : Nat} {t b : Int} (h : Blk W B 24 [.slice A n c, .int .i64 t, .int .i64 b]) (ho : Only [] W W') :
    Blk W' B 24 [.slice A n c, .int .i64 t, .int .i64 b] ∧ W'.cell? ⟨B, 0, none⟩ = some (.slice A n c) ∧ W'.cell? ⟨B, 1, none⟩ = some (.int .i64 t) ∧ W'.cell? ⟨B, 2, none⟩ = some (.int .i64 b) := by
  have h' := h.only ho (by simp)
  exact ⟨h', h'.cell 0, h'.cell 1, h'.cell 2⟩

set_option maxRecDepth 20000 in
set_option maxHeartbeats 4000000 in
theorem nearest_any {w : World} {A : Option Addr} {ms : List Int} (c : Nat) (t b h : Int) (hI : IntsAt w A ms) (hl : ms.length ≤ 9223372036854775807) :
    Calls Try.prog 3 #[sysV A ms.length c t b, .int .i64 h] w fun e w' => e = .returned (.bool true) ∧ Only [] w w' := by
  have X := Lib.hid ((Only.refl [] w).alloc (sysBox A ms.length c t b))
  have HB := Lib.hid (Blk.new w 24 [.slice A ms.length c, .int .i64 t, .int .i64 b])
  have HI := Lib.hid (hI.only X.out (by simp))
  clear hI
  by_cases h8 : 8 < ms.length
  · go_enter Try.func3, Try.ntmps3
    go_wp2_with (first
      | (have _t := b10; go_at_call 12; refine (known_any _).mono ?_; rintro e w2 ⟨rfl, o2⟩)
      | (go_at_call 12; refine (known_any _).mono ?_; rintro e w1 ⟨rfl, o1⟩; obtain ⟨b1, b10, b11, b12⟩ := sys_cells HB.out o1))
    go_ret
    exact ⟨rfl, (X.out.trans o1).trans o2⟩
  · rcases properB_cases ms t b with ⟨hp, hpb⟩ | ⟨hp, hpb⟩
    · by_cases hh : -1073741824 ≤ h ∧ h ≤ 1073741824
      · obtain ⟨hh1, hh2⟩ := hh
        have HP := Lib.hid hp
        have HPB := Lib.hid hpb
        have hz := hp.pos
        clear hp hpb
        go_enter Try.func3, Try.ntmps3
        go_wp2_with (first
          | (go_at_call 12; refine (known_any _).mono ?_; rintro e w1 ⟨rfl, o1⟩; obtain ⟨b1, b10, b11, b12⟩ := sys_cells HB.out o1)
          | (go_at_call 13; refine (near_ok c t b h (HI.out.only o1 (by simp)) (by omega) HP.out hh1 hh2).mono ?_; rintro e w2 ⟨rfl, o2⟩; obtain ⟨b2, b20, b21, b22⟩ := sys_cells b1 o2)
          | (go_at_call 14; refine (mproper_any c t b (HI.out.only (o1.trans o2) (by simp)) (by omega)).mono ?_; rintro e w3 ⟨rfl, o3⟩; rw [HPB.out]; obtain ⟨b3, b30, b31, b32⟩ := sys_cells b2 o3))
        have X3 := Lib.hid (((X.out.trans o1).trans o2).trans o3)
        obtain ⟨bA, off, rfl, hbA, hc⟩ := ((HI.out.only ((o1.trans o2).trans o3) (by simp))).flat hz
        have HC := Lib.hid hc
        clear hc b1 b10 b11 b12 b2 b20 b21 b22 b3 o1 o2 o3 HB HI X
        obtain ⟨m, hm⟩ : ∃ m, ms.length = m + 1 := ⟨ms.length - 1, by omega⟩
        have hNL := nearTo_lt ms h m
        rw [← hm] at hNL
        have HN := Lib.hid hNL
        clear hNL hm
        go_loopw [8, 9] (fun s i wr => ∃ (j q : Nat), 1 ≤ j ∧ j ≤ ms.length ∧ i = .int .i64 j ∧ s = .int .i64 (nearTo ms h j) ∧ wr = w3.drewN q) (fun _ i _ => ms.length - (intOf i).toNat)
        case atStart => exact ⟨1, 0, by omega, hz, rfl, by rw [nearTo_one]; rfl, rfl⟩
        case round =>
          obtain ⟨j, q, hj1, hj, rfl, rfl, rfl⟩ := hrel
          by_cases hlt : j < ms.length
          · have hnl : nearTo ms h j < j := by
              obtain ⟨i, rfl⟩ : ∃ i, j = i + 1 := ⟨j - 1, by omega⟩
              exact nearTo_lt ms h i
            obtain ⟨b1, hb1⟩ : ∃ b, nearTo ms h j = b := ⟨_, rfl⟩
            have HB1 := Lib.hid hb1
            rw [hb1] at hnl ⊢
            clear hb1
            have mj := HC.out j hlt
            have mb := HC.out b1 (by omega)
            have rj := HP.out.rng j hlt
            have rb := HP.out.rng b1 (by omega)
            have D1 : distN ms h j = max (h - ms[j]) (-(h - ms[j])) := by rw [distN, getD_get hlt]
            have D2 : distN ms h b1 = max (h - ms[b1]) (-(h - ms[b1])) := by rw [distN, getD_get (show b1 < ms.length by omega)]
            generalize ms[j] = xj at *
            generalize ms[b1] = xb at *
            have j0 : (0 : Int) ≤ (j : Int) := by omega
            have j1 : (j : Int) < (ms.length : Int) := by omega
            have k0 : (0 : Int) ≤ (b1 : Int) := by omega
            have k1 : (b1 : Int) < (ms.length : Int) := by omega
            have y1 : IntKind.i64.wrap (h - xj) = h - xj := IntWalk.i64_in _ (by omega)
            have y2 : IntKind.i64.wrap (h - xb) = h - xb := IntWalk.i64_in _ (by omega)
            have A1 := Lib.hid (fun W => abs_any (h - xj) (by omega) (by omega) W)
            have A2 := Lib.hid (fun W => abs_any (h - xb) (by omega) (by omega) W)
            obtain ⟨d1, hd1⟩ : ∃ d, max (h - xj) (-(h - xj)) = d := ⟨_, rfl⟩
            obtain ⟨d2, hd2⟩ : ∃ d, max (h - xb) (-(h - xb)) = d := ⟨_, rfl⟩
            have NT : Hid (nearTo ms h (j + 1) = if d1 < d2 then j else b1) := Lib.hid (by rw [nearTo, HB1.out, D1, D2, hd1, hd2])
            rw [hd1] at A1
            rw [hd2] at A2
            clear hd1 hd2 D1 D2
            by_cases hlt2 : d1 < d2
            all_goals
              go_wp2
              go_quiet ((first
                | (go_at_call 15; with_reducible exact quiet_add_left (A1.out _))
                | (go_at_call 15; with_reducible exact quiet_add_left (A2.out _))
                | (go_at_call 15; with_reducible exact quiet_left (A1.out _))
                | (go_at_call 15; with_reducible exact quiet_left (A2.out _))))
              go_wp2
              go_roundw
              case rel => exact ⟨j + 1, _, by omega, by omega, by go_num, by rw [NT.out]; first | rw [if_pos (by omega)] | rw [if_neg (by omega)], rfl⟩
              case measure => simp [intOf]; omega
          · obtain rfl : j = ms.length := by omega
            have hnl := HN.out
            obtain ⟨b1, hb1⟩ : ∃ b, nearTo ms h ms.length = b := ⟨_, rfl⟩
            rw [hb1] at hnl ⊢
            have mb := HC.out b1 hnl
            have GB : ms[b1]?.getD 0 = ms[b1] := by simp [hnl]
            rw [GB]
            clear hb1 GB
            have k0 : (0 : Int) ≤ (b1 : Int) := by omega
            have k1 : (b1 : Int) < (ms.length : Int) := by omega
            have rb := HP.out.rng b1 hnl
            generalize ms[b1] = xb at *
            go_wp2
            go_ret
            exact ⟨rfl, X3.out.drewN _⟩
      · have HPB := Lib.hid hpb
        have hz := hp.pos
        have hh' : h < -1073741824 ∨ 1073741824 < h := by omega
        clear hp hpb hh
        rcases hh' with hh | hh
        · go_enter Try.func3, Try.ntmps3
          go_wp2_with (first
            | (go_at_call 12; refine (known_any _).mono ?_; rintro e w1 ⟨rfl, o1⟩; obtain ⟨b1, b10, b11, b12⟩ := sys_cells HB.out o1)
            | (go_at_call 13; refine (near_range c t b h (HI.out.only o1 (by simp)) (by omega) HPB.out (by omega)).mono ?_; rintro e w2 ⟨rfl, o2⟩; obtain ⟨b2, b20, b21, b22⟩ := sys_cells b1 o2)
            | (go_at_call 14; refine (mproper_any c t b (HI.out.only (o1.trans o2) (by simp)) (by omega)).mono ?_; rintro e w3 ⟨rfl, o3⟩; rw [HPB.out]))
          go_ret
          exact ⟨rfl, ((X.out.trans o1).trans o2).trans o3⟩
        · have hn : ¬ h < -1073741824 := by omega
          go_enter Try.func3, Try.ntmps3
          go_wp2_with (first
            | (go_at_call 12; refine (known_any _).mono ?_; rintro e w1 ⟨rfl, o1⟩; obtain ⟨b1, b10, b11, b12⟩ := sys_cells HB.out o1)
            | (go_at_call 13; refine (near_range c t b h (HI.out.only o1 (by simp)) (by omega) HPB.out (by omega)).mono ?_; rintro e w2 ⟨rfl, o2⟩; obtain ⟨b2, b20, b21, b22⟩ := sys_cells b1 o2)
            | (go_at_call 14; refine (mproper_any c t b (HI.out.only (o1.trans o2) (by simp)) (by omega)).mono ?_; rintro e w3 ⟨rfl, o3⟩; rw [HPB.out]))
          go_ret
          exact ⟨rfl, ((X.out.trans o1).trans o2).trans o3⟩
    · have HPB := Lib.hid hpb
      clear hp hpb
      go_enter Try.func3, Try.ntmps3
      go_wp2_with (first
        | (go_at_call 12; refine (known_any _).mono ?_; rintro e w1 ⟨rfl, o1⟩; obtain ⟨b1, b10, b11, b12⟩ := sys_cells HB.out o1)
        | (go_at_call 13; refine (near_bad c t b h (HI.out.only o1 (by simp)) (by omega) HPB.out).mono ?_; rintro e w2 ⟨rfl, o2⟩; obtain ⟨b2, b20, b21, b22⟩ := sys_cells b1 o2)
        | (go_at_call 14; refine (mproper_any c t b (HI.out.only (o1.trans o2) (by simp)) (by omega)).mono ?_; rintro e w3 ⟨rfl, o3⟩; rw [HPB.out]))
      go_ret
      exact ⟨rfl, ((X.out.trans o1).trans o2).trans o3⟩
end Go.Proofs.Yticpophdoiljfaa
