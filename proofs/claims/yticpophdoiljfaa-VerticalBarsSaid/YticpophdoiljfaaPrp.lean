/- DERIVED. Vertical: a proper system: the package's proper and the statements' proper. -/
import Derived.Test.YticpophdoiljfaaKnw
namespace Go.Proofs.Yticpophdoiljfaa
open Go.RowKit
attribute [local go_sem ↓] Go.wp_at_zero Go.wp_at_succ

/-- A system is proper. -/
structure Proper (ms : List Int) (t b : Int) : Prop where
  pos : 0 < ms.length
  zero : ms.getD 0 0 = 0
  top : 0 ≤ t ∧ t ≤ 1073741824
  bot : -1073741824 ≤ b
  last : b ≤ ms.getD (ms.length - 1) 0
  dec : ∀ i, i + 1 < ms.length → ms.getD (i + 1) 0 < ms.getD i 0
noncomputable def properB (ms : List Int) (t b : Int) : Bool := @decide (Proper ms t b) (Classical.propDecidable _)
theorem properB_true {ms : List Int} {t b : Int} (h : Proper ms t b) : properB ms t b = true := by simp [properB, h]
theorem properB_false {ms : List Int} {t b : Int} (h : ¬ Proper ms t b) : properB ms t b = false := by simp [properB, h]
theorem properB_cases (ms : List Int) (t b : Int) : (Proper ms t b ∧ properB ms t b = true) ∨ (¬ Proper ms t b ∧ properB ms t b = false) := by
  by_cases h : Proper ms t b
  · exact .inl ⟨h, properB_true h⟩
  · exact .inr ⟨h, properB_false h⟩
theorem getD_get {ms : List Int} {i : Nat} (hi : i < ms.length) : ms.getD i 0 = ms[i] := by simp [List.getD, hi]
theorem Proper.anti {ms : List Int} {t b : Int} (h : Proper ms t b) : ∀ (d i : Nat), i + d < ms.length → ms.getD (i + d) 0 ≤ ms.getD i 0
  | 0, _, _ => Int.le_refl _
  | d + 1, i, hi => by
    have h1 := h.anti d i (by omega)
    have h2 := h.dec (i + d) (by omega)
    rw [show i + (d + 1) = i + d + 1 by omega]
    omega
theorem Proper.rng {ms : List Int} {t b : Int} (h : Proper ms t b) (i : Nat) (hi : i < ms.length) : -1073741824 ≤ ms[i] ∧ ms[i] ≤ 0 := by
  have h1 := h.anti i 0 (by omega)
  have h2 := h.anti (ms.length - 1 - i) i (by omega)
  rw [show i + (ms.length - 1 - i) = ms.length - 1 by omega] at h2
  rw [Nat.zero_add, h.zero, getD_get hi] at h1
  rw [getD_get hi] at h2
  have := h.last
  have := h.bot
  omega
/-- A box of a system. -/
abbrev sysBox (A : Option Addr) (n c : Nat) (t b : Int) : Obj := .cells #[.slice A n c, .int .i64 t, .int .i64 b] 24
abbrev sysV (A : Option Addr) (n c : Nat) (t b : Int) : Value := .agg #[.slice A n c, .int .i64 t, .int .i64 b]

set_option maxRecDepth 20000 in
set_option maxHeartbeats 4000000 in
theorem vproper_any {w : World} {A : Option Addr} {ms : List Int} (c : Nat) (t b : Int) (hI : IntsAt w A ms) (hl : ms.length ≤ 8) :
    Calls Try.prog 35 #[sysV A ms.length c t b] w fun e w' => e = .returned (.bool (properB ms t b)) ∧ Only [] w w' := by
  by_cases hz : 0 < ms.length
  · obtain ⟨bA, off, rfl, hb, -⟩ := hI 0 hz
    have HC := Lib.hid (show ∀ i (hi : i < ms.length), (w.alloc (sysBox (some ⟨bA, off, none⟩) ms.length c t b)).cell? ⟨bA, off + i, none⟩ = some (.int .i64 ms[i]) from fun i hi => by
      obtain ⟨b', off', hA, hb', hc⟩ := hI i hi
      simp only [Option.some.injEq, Addr.mk.injEq, and_true] at hA
      obtain ⟨rfl, rfl⟩ := hA
      exact (World.cell?_alloc_lt w _ ⟨bA, off + i, none⟩ hb).trans hc)
    clear hI
    have m0 := HC.out 0 hz
    rw [Nat.add_zero] at m0
    have z0 : (0 : Int) < (ms.length : Int) := by omega
    by_cases h0 : ms[0] = 0
    · have n0 : (ms[0] != 0) = false := by simpa using h0
      have H0 := Lib.hid h0
      clear h0
      go_enter Try.func35, Try.ntmps35
      go_wp2
      clear m0 n0
      go_loop [25] (fun i => ∃ j : Nat, j ≤ ms.length ∧ i = .int .i64 j ∧ ∀ q, q + 1 < ms.length → q + 1 < j → ms.getD (q + 1) 0 < ms.getD q 0) (fun i => ms.length - (intOf i).toNat)
      case atStart => exact ⟨0, by omega, rfl, fun q _ hq => absurd hq (by omega)⟩
      case round =>
        obtain ⟨j, hj, rfl, hdec⟩ := hrel
        have HD := Lib.hid hdec
        clear hdec
        by_cases hlt : j < ms.length
        · have mj := HC.out j hlt
          have j0 : (0 : Int) ≤ (j : Int) := by omega
          have j1 : (j : Int) < (ms.length : Int) := by omega
          by_cases c1 : ms[j] < -1073741824
          · go_wp2
            go_ret
            exact ⟨ret_bool ((properB_false fun hp => by have := hp.rng j hlt; omega).symm), (Only.refl _ _).alloc _⟩
          · by_cases c2 : 1073741824 < ms[j]
            · go_wp2
              go_ret
              exact ⟨ret_bool ((properB_false fun hp => by have := hp.rng j hlt; omega).symm), (Only.refl _ _).alloc _⟩
            · by_cases hj0 : 0 < j
              · obtain ⟨q, rfl⟩ : ∃ q, j = q + 1 := ⟨j - 1, by omega⟩
                have mq := HC.out q (by omega)
                have k0 : (0 : Int) < ((q + 1 : Nat) : Int) := by omega
                have GQ := Lib.hid (getD_get (show q < ms.length by omega))
                have GJ := Lib.hid (getD_get hlt)
                generalize ms[q] = xq at *
                generalize ms[q + 1] = xj at *
                by_cases c3 : xj < xq
                · go_wp2
                  go_round
                  case rel =>
                    refine ⟨q + 1 + 1, by omega, by go_num, fun p h1 h2 => ?_⟩
                    by_cases e : p = q
                    · subst e; rw [GQ.out, GJ.out]; exact c3
                    · exact HD.out p h1 (by omega)
                  case measure => simp [intOf]; omega
                · have c4 : xq ≤ xj := by omega
                  go_wp2
                  go_ret
                  exact ⟨ret_bool ((properB_false fun hp => by have := hp.dec q hlt; rw [GQ.out, GJ.out] at this; omega).symm), (Only.refl _ _).alloc _⟩
              · obtain rfl : j = 0 := by omega
                rw [Nat.add_zero] at mj
                go_wp2
                go_round
                case rel => exact ⟨0 + 1, by omega, by go_num, fun p h1 h2 => absurd h2 (by omega)⟩
                case measure => simp [intOf]; omega
        · obtain rfl : j = ms.length := by omega
          have ml := HC.out (ms.length - 1) (by omega)
          have GL := Lib.hid (getD_get (show ms.length - 1 < ms.length by omega))
          have e1 : IntKind.i64.wrap ((ms.length : Int) - 1) = (ms.length : Int) - 1 := IntWalk.i64_in _ (by omega)
          have e2 : ((ms.length : Int) - 1).toNat = ms.length - 1 := by omega
          have e3 : (0 : Int) ≤ (ms.length : Int) - 1 := by omega
          have e4 : (ms.length : Int) - 1 < (ms.length : Int) := by omega
          generalize ms[ms.length - 1] = xl at *
          by_cases d1 : 0 ≤ t
          · have d1' : decide (0 ≤ t) = true := by simpa using d1
            by_cases d2 : t ≤ 1073741824
            · have d2' : decide (t ≤ 1073741824) = true := by simpa using d2
              by_cases d3 : b ≤ xl
              · have d3' : decide (b ≤ xl) = true := by simpa using d3
                by_cases d4 : -1073741824 ≤ b
                · have d4' : decide (-1073741824 ≤ b) = true := by simpa using d4
                  go_wp2
                  go_quiet (fail)
                  go_wp2
                  go_ret
                  exact ⟨ret_bool ((properB_true ⟨hz, by rw [getD_get hz]; exact H0.out, ⟨d1, d2⟩, d4, by rw [GL.out]; exact d3, fun q hq => HD.out q hq hq⟩).symm), ((Only.refl _ _).alloc _).drewN _⟩
                · have d4' : decide (-1073741824 ≤ b) = false := by simpa using d4
                  go_wp2
                  go_quiet (fail)
                  go_wp2
                  go_ret
                  exact ⟨ret_bool ((properB_false fun hp => by have := hp.bot; omega).symm), ((Only.refl _ _).alloc _).drewN _⟩
              · have d3' : decide (b ≤ xl) = false := by simpa using d3
                go_wp2
                go_quiet (fail)
                go_wp2
                go_ret
                exact ⟨ret_bool ((properB_false fun hp => by have := hp.last; rw [GL.out] at this; omega).symm), ((Only.refl _ _).alloc _).drewN _⟩
            · have d2' : decide (t ≤ 1073741824) = false := by simpa using d2
              go_wp2
              go_quiet (fail)
              go_wp2
              go_ret
              exact ⟨ret_bool ((properB_false fun hp => by have := hp.top.2; omega).symm), ((Only.refl _ _).alloc _).drewN _⟩
          · have d1' : decide (0 ≤ t) = false := by simpa using d1
            go_wp2
            go_quiet (fail)
            go_wp2
            go_ret
            exact ⟨ret_bool ((properB_false fun hp => by have := hp.top.1; omega).symm), ((Only.refl _ _).alloc _).drewN _⟩
    · have n0 : (ms[0] != 0) = true := by simpa using h0
      have H0 := Lib.hid h0
      clear h0
      go_enter Try.func35, Try.ntmps35
      go_wp2
      go_ret
      exact ⟨ret_bool ((properB_false fun hp => by have := hp.zero; rw [getD_get hz] at this; exact H0.out this).symm), (Only.refl _ _).alloc _⟩
  · go_enter Try.func35, Try.ntmps35
    go_wp2
    go_ret
    exact ⟨ret_bool ((properB_false fun hp => by exact hz hp.pos).symm), (Only.refl _ _).alloc _⟩

set_option maxRecDepth 20000 in
set_option maxHeartbeats 8000000 in
theorem mproper_any {w : World} {A : Option Addr} {ms : List Int} (c : Nat) (t b : Int) (hI : IntsAt w A ms) (hl : ms.length ≤ 8) :
    Calls Try.prog 14 #[sysV A ms.length c t b] w fun e w' => e = .returned (.bool (properB ms t b)) ∧ Only [] w w' := by
  by_cases hz : 0 < ms.length
  · obtain ⟨bA, off, rfl, hb, -⟩ := hI 0 hz
    have HC := Lib.hid (show ∀ i (hi : i < ms.length), (w.alloc (sysBox (some ⟨bA, off, none⟩) ms.length c t b)).cell? ⟨bA, off + i, none⟩ = some (.int .i64 ms[i]) from fun i hi => by
      obtain ⟨b', off', hA, hb', hc⟩ := hI i hi
      simp only [Option.some.injEq, Addr.mk.injEq, and_true] at hA
      obtain ⟨rfl, rfl⟩ := hA
      exact (World.cell?_alloc_lt w _ ⟨bA, off + i, none⟩ hb).trans hc)
    clear hI
    have m0 := HC.out 0 hz
    rw [Nat.add_zero] at m0
    have HX : Hid (Only [] w (w.alloc (sysBox (some ⟨bA, off, none⟩) ms.length c t b))) := Lib.hid ((Only.refl _ _).alloc _)
    have z0 : (0 : Int) < (ms.length : Int) := by omega
    have z1 : decide ((ms.length : Int) < 1) = false := by simp; omega
    have z2 : decide ((128 : Int) < (ms.length : Int)) = false := by simp; omega
    have ml := HC.out (ms.length - 1) (by omega)
    have GL := Lib.hid (getD_get (show ms.length - 1 < ms.length by omega))
    have e1 : IntKind.i64.wrap ((ms.length : Int) - 1) = (ms.length : Int) - 1 := IntWalk.i64_in _ (by omega)
    have e2 : ((ms.length : Int) - 1).toNat = ms.length - 1 := by omega
    have e3 : (0 : Int) ≤ (ms.length : Int) - 1 := by omega
    have e4 : (ms.length : Int) - 1 < (ms.length : Int) := by omega
    generalize ms[ms.length - 1] = xl at *
    by_cases h0 : ms[0] = 0
    · have n0 : (ms[0] != 0) = false := by simpa using h0
      have H0 := Lib.hid h0
      clear h0
      by_cases c1 : t < 0
      · have c1' : decide (t < 0) = true := by simpa using c1
        go_enter Try.func14, Try.ntmps14
        go_wp2
        go_quiet (fail)
        go_wp2
        go_ret
        exact ⟨ret_bool ((properB_false fun hp => by have := hp.top.1; omega).symm), ((Only.refl _ _).alloc _).drewN _⟩
      · have c1' : decide (t < 0) = false := by simpa using c1
        by_cases c2 : 1073741824 < t
        · have c2' : decide (1073741824 < t) = true := by simpa using c2
          go_enter Try.func14, Try.ntmps14
          go_wp2
          go_quiet (fail)
          go_wp2
          go_ret
          exact ⟨ret_bool ((properB_false fun hp => by have := hp.top.2; omega).symm), ((Only.refl _ _).alloc _).drewN _⟩
        · have c2' : decide (1073741824 < t) = false := by simpa using c2
          by_cases c3 : b < -1073741824
          · have c3' : decide (b < -1073741824) = true := by simpa using c3
            go_enter Try.func14, Try.ntmps14
            go_wp2
            go_quiet (fail)
            go_wp2
            go_ret
            exact ⟨ret_bool ((properB_false fun hp => by have := hp.bot; omega).symm), ((Only.refl _ _).alloc _).drewN _⟩
          · have c3' : decide (b < -1073741824) = false := by simpa using c3
            by_cases c4 : xl < -1073741824
            · have c4' : decide (xl < -1073741824) = true := by simpa using c4
              go_enter Try.func14, Try.ntmps14
              go_wp2
              go_quiet (fail)
              go_wp2
              go_ret
              exact ⟨ret_bool ((properB_false fun hp => by have := hp.last; have := hp.bot; rw [GL.out] at *; omega).symm), ((Only.refl _ _).alloc _).drewN _⟩
            · have c4' : decide (xl < -1073741824) = false := by simpa using c4
              by_cases c5 : xl < b
              · have c5' : decide (xl < b) = true := by simpa using c5
                go_enter Try.func14, Try.ntmps14
                go_wp2
                go_quiet (fail)
                go_wp2
                go_ret
                exact ⟨ret_bool ((properB_false fun hp => by have := hp.last; rw [GL.out] at this; omega).symm), ((Only.refl _ _).alloc _).drewN _⟩
              · have c5' : decide (xl < b) = false := by simpa using c5
                go_enter Try.func14, Try.ntmps14
                go_wp2
                go_quiet (fail)
                go_wp2
                clear m0 ml n0 e1 e2 e3 e4
                go_loopw [4] (fun i wr => ∃ j q : Nat, 1 ≤ j ∧ j ≤ ms.length ∧ i = .int .i64 j ∧ wr = (w.alloc (sysBox (some ⟨bA, off, none⟩) ms.length c t b)).drewN q ∧ ∀ q, q + 1 < ms.length → q + 1 < j → ms.getD (q + 1) 0 < ms.getD q 0) (fun i _ => ms.length - (intOf i).toNat)
                case atStart => exact ⟨1, _, Nat.le_refl _, hz, rfl, rfl, fun q _ hq => absurd hq (by omega)⟩
                case round =>
                  obtain ⟨j, n, hj1, hj, rfl, rfl, hdec⟩ := hrel
                  have HD := Lib.hid hdec
                  clear hdec
                  by_cases hlt : j < ms.length
                  · obtain ⟨q, rfl⟩ : ∃ q, j = q + 1 := ⟨j - 1, by omega⟩
                    have mj := HC.out (q + 1) hlt
                    have mq := HC.out q (by omega)
                    have j0 : (0 : Int) ≤ ((q + 1 : Nat) : Int) := by omega
                    have j1 : ((q + 1 : Nat) : Int) < (ms.length : Int) := by omega
                    have j2 : (((q + 1 : Nat) : Int) - 1) = (q : Int) := by omega
                    have j3 : IntKind.i64.wrap ((q : Int)) = (q : Int) := IntWalk.i64_in _ (by omega)
                    have j4 : (0 : Int) ≤ (q : Int) := by omega
                    have j5 : (q : Int) < (ms.length : Int) := by omega
                    have GQ := Lib.hid (getD_get (show q < ms.length by omega))
                    have GJ := Lib.hid (getD_get hlt)
                    generalize ms[q] = xq at *
                    generalize ms[q + 1] = xj at *
                    by_cases c3 : xj < xq
                    · go_wp2
                      go_quiet (fail)
                      go_wp2
                      go_roundw
                      case rel =>
                        refine ⟨q + 1 + 1, _, by omega, by omega, by go_num, rfl, fun p h1 h2 => ?_⟩
                        by_cases e : p = q
                        · subst e; rw [GQ.out, GJ.out]; exact c3
                        · exact HD.out p h1 (by omega)
                      case measure => simp [intOf]; omega
                    · have c4 : xq ≤ xj := by omega
                      go_wp2
                      go_quiet (fail)
                      go_wp2
                      go_ret
                      exact ⟨ret_bool ((properB_false fun hp => by have := hp.dec q hlt; rw [GQ.out, GJ.out] at this; omega).symm), by simpa using HX.out.drewN _⟩
                  · obtain rfl : j = ms.length := by omega
                    go_wp2
                    go_ret
                    exact ⟨ret_bool ((properB_true ⟨hz, by rw [getD_get hz]; exact H0.out, by omega, by omega, by rw [GL.out]; omega, fun q hq => HD.out q hq hq⟩).symm), by simpa using HX.out.drewN _⟩
    · have n0 : (ms[0] != 0) = true := by simpa using h0
      have H0 := Lib.hid h0
      clear h0
      go_enter Try.func14, Try.ntmps14
      go_wp2
      go_quiet (fail)
      go_wp2
      go_ret
      exact ⟨ret_bool ((properB_false fun hp => by have := hp.zero; rw [getD_get hz] at this; exact H0.out this).symm), ((Only.refl _ _).alloc _).drewN _⟩
  · have z1 : decide ((ms.length : Int) < 1) = true := by simp; omega
    go_enter Try.func14, Try.ntmps14
    go_wp2
    go_quiet (fail)
    go_wp2
    go_ret
    exact ⟨ret_bool ((properB_false fun hp => by exact hz hp.pos).symm), ((Only.refl _ _).alloc _).drewN _⟩
end Go.Proofs.Yticpophdoiljfaa
