/- DERIVED. Vertical: the extents of staves. -/
import Derived.Test.YticpophdoiljfaaStkB
namespace Go.Proofs.Yticpophdoiljfaa
open Go.RowKit
attribute [local go_sem ↓] Go.wp_at_zero Go.wp_at_succ

theorem most_all {h : List Int} {n : Nat} (side : Int) (hn : h.length = n) (h0 : 1 ≤ n) : mostV side h 0 ((n : Int) - 1) = side * maxL h := by
  have hc : colErr h.length 0 ((n : Int) - 1) = 0 := by unfold colErr; split <;> omega
  rw [mostV, if_pos hc]
  congr 1
  unfold mostOut
  rw [show ((0 : Int)).toNat = 0 from rfl, show ((n : Int) - 1 + 1 - 0).toNat = n by omega, List.drop_zero, List.take_of_length_le (by omega)]
theorem most_is {w : World} {s g n : Nat} {side : Int} {h : List Int} (hs : Sky w s g side h) (hn : h.length = n) (h0 : 1 ≤ n) :
    Calls Try.prog 58 #[.pointer (some ⟨s, 0, none⟩), .int .i64 0, .int .i64 ((n : Int) - 1)] w
      fun e w' => e = .returned (.tuple #[.int .i64 (side * maxL h), .int .i64 0]) ∧ ∃ q, w' = w.drewN q :=
  (most_any hs 0 ((n : Int) - 1)).mono fun e w' ⟨he, hq⟩ => ⟨by
    have hc : colErr h.length 0 ((n : Int) - 1) = 0 := by unfold colErr; split <;> omega
    rw [he, most_all side hn h0, hc], hq⟩

/-- The extents of the first k staves, whose middle lines are at ms. -/
def topG (L : List SV) (ms : Nat → Int) : Nat → Int
  | 0 => 0
  | i + 1 => max (topG L ms i) (max (ms i) (ms i + maxL (L.getD i ⟨[], [], 0⟩).ha))
def botG (L : List SV) (ms : Nat → Int) : Nat → Int
  | 0 => 0
  | i + 1 => min (botG L ms i) (min (ms i) (ms i - maxL (L.getD i ⟨[], [], 0⟩).hb))
theorem topG_to (L : List SV) (gap least : Int) : ∀ k, topG L (midTo L gap least) k = topTo L gap least k
  | 0 => rfl
  | k + 1 => by rw [topG, topTo, topG_to L gap least k]
theorem botG_to (L : List SV) (gap least : Int) : ∀ k, botG L (midTo L gap least) k = botTo L gap least k
  | 0 => rfl
  | k + 1 => by rw [botG, botTo, botG_to L gap least k]

theorem quiet_add_left {P : Program} {f : FuncId} {args : Array Value} {w : World} {a n : Nat} {v : Value}
    (h : Calls P f args (w.drewN (a + n)) fun e w' => e = .returned v ∧ w.drewN (a + n) = w') :
    Calls P f args (w.drewN (a + n)) fun e w'' => e = .returned v ∧ ∃ m, w'' = w.drewN (a + m) :=
  h.mono fun _ _ ⟨he, hm⟩ => ⟨he, n, hm.symm⟩

set_option maxRecDepth 20000 in
set_option maxHeartbeats 4000000 in
theorem extreme_top {w : World} {k n : Nat} {l : List StaffR} (cap : Nat) (h : Stv w k l n) (ms : Nat → Int) (g m c : Nat) (hm : ∀ i, i < l.length → w.cell? ⟨g, i, none⟩ = some (.int .i64 (ms i))) (hlm : l.length ≤ m) (hg : g < w.heap.size) (hr : ∀ i, i < l.length → -1000000 ≤ ms i ∧ ms i ≤ 1000000) (hz : ms 0 = 0) :
    Calls Try.prog 39 #[.slice (some ⟨k, 0, none⟩) l.length cap, .slice (some ⟨g, 0, none⟩) m c, .func (.func 40) #[] #[], .func (.func 41) #[] #[]] w
      fun e w' => e = .returned (.int .i64 (topG (l.map StaffR.v) ms l.length)) ∧ Only [] w w' := by
  have hp := h.pos
  have hf := h.few
  have H := Lib.hid h
  have HM := Lib.hid hm
  have HR := Lib.hid hr
  have HZ := Lib.hid hz
  have HG := Lib.hid hg
  clear h hm hr hz hg
  go_enter Try.func39, Try.ntmps39
  go_wp2
  go_loopw [9, 18] (fun o i wr => ∃ j : Nat, j ≤ l.length ∧ i = .int .i64 j ∧ o = .int .i64 (topG (l.map StaffR.v) ms j) ∧ Only [] w wr) (fun _ i _ => l.length - (intOf i).toNat)
  case atStart => exact ⟨0, by omega, rfl, rfl, Only.refl _ _⟩
  case round =>
    obtain ⟨j, hj, rfl, rfl, hO⟩ := hrel
    by_cases hlt : j < l.length
    · have hS := H.out.newer hO (by simp)
      have j0 : (0 : Int) ≤ (j : Int) := by omega
      have j1 : (j : Int) < (l.length : Int) := by omega
      have jm : (j : Int) < (m : Int) := by omega
      have c0 : wr.cell? ⟨k, j * 3, none⟩ = some (.pointer (some ⟨l[j].sa, 0, none⟩)) := hS.cell j hlt 0 _ rfl
      have c1 : wr.cell? ⟨k, j * 3 + 1, none⟩ = some (.pointer (some ⟨l[j].sb, 0, none⟩)) := hS.cell j hlt 1 _ rfl
      have c2 : wr.cell? ⟨k, j * 3 + 2, none⟩ = some (.int .i64 l[j].v.part) := hS.cell j hlt 2 _ rfl
      have HK := Lib.hid ((hS.ok j hlt).newer ((Only.refl [] wr).alloc (.cells #[.pointer (some ⟨l[j].sa, 0, none⟩), .pointer (some ⟨l[j].sb, 0, none⟩), .int .i64 l[j].v.part] 50)) (by simp))
      have X1 := Lib.hid (hO.alloc (.cells #[.pointer (some ⟨l[j].sa, 0, none⟩), .pointer (some ⟨l[j].sb, 0, none⟩), .int .i64 l[j].v.part] 50))
      have hM := maxL_low 0 8128 (by rw [(hS.ok j hlt).la]; exact hS.npos) (hS.low j hlt).1
      have hnp := hS.npos
      have hrj := HR.out j hlt
      have T : Hid (topG (l.map StaffR.v) ms (j + 1) = max (topG (l.map StaffR.v) ms j) (max (ms j) (ms j + maxL l[j].v.ha))) := Lib.hid (by rw [topG, getD_map hlt])
      have hz0 : j = 0 → ms j = 0 := fun e => by rw [e]; exact HZ.out
      have HZ0 := Lib.hid hz0
      have HMJ := Lib.hid (HM.out j hlt)
      have MI := Lib.hid (fun W (hW : Only [] (wr.alloc (.cells #[.pointer (some ⟨l[j].sa, 0, none⟩), .pointer (some ⟨l[j].sb, 0, none⟩), .int .i64 l[j].v.part] 50)) W) => most_is ((HK.out.above).only hW (by simp) (by simp)) HK.out.la hnp)
      generalize maxL l[j].v.ha = M at *
      generalize ms j = mj at *
      obtain ⟨o1, ho1⟩ : ∃ o, topG (l.map StaffR.v) ms j = o := ⟨_, rfl⟩
      rw [ho1] at T ⊢
      have HO1 := Lib.hid ho1
      have e1 : IntKind.i64.wrap ((n : Int) - 1) = (n : Int) - 1 := IntWalk.i64_in _ (by have := H.out.nfew; omega)
      have e2 : IntKind.i64.wrap (mj + M) = mj + M := IntWalk.i64_in _ (by omega)
      clear hS hz0 ho1
      obtain ⟨N1, hN1⟩ : ∃ N1, 1 * M = N1 := ⟨_, rfl⟩
      rw [hN1] at MI
      have e3 : mj + N1 = mj + M := by omega
      have HN1 := Lib.hid hN1
      clear hN1
      go_wp2_with (first
        | (go_at_call 40; refine (above_fn _ _ _ _).mono ?_; rintro e w2 ⟨rfl, o2⟩)
        | (go_at_call 25; refine (ncols_is ((HK.out.above).only o2 (by simp) (by simp)) HK.out.la).mono ?_; rintro e w3 ⟨rfl, rfl⟩)
        | (go_at_call 58; refine (MI.out _ o2).mono ?_; rintro e w3 ⟨rfl, nq3, rfl⟩))
      have X2 := Lib.hid ((X1.out.trans o2).drewN nq3)
      have m0 : (w2.drewN nq3).cell? ⟨g, j, none⟩ = some (.int .i64 mj) := (X2.out.cell (p := ⟨g, j, none⟩) HG.out (by simp)).trans HMJ.out
      have m1 : w2.cell? ⟨g, j, none⟩ = some (.int .i64 mj) := m0
      have e4 : IntKind.i64.wrap (mj + N1) = mj + M := by rw [e3]; exact e2
      obtain ⟨hh, hhh⟩ : ∃ hh, max mj (mj + M) = hh := ⟨_, rfl⟩
      have MF := Lib.hid (fun W => max_fn mj (mj + M) W)
      rw [hhh] at MF
      rw [hhh] at T
      have HHH := Lib.hid hhh
      clear hhh m0
      clear c0 c1 c2
      go_quiet ((go_at_call 41; exact quiet_add_left (MF.out _)))
      have X3 := Lib.hid (X2.out.drewN nq)
      by_cases hj0 : j = 0
      · have t0 : ((j : Int) == 0) = true := by simp [hj0]
        have HJ0 := Lib.hid hj0
        clear hj0
        go_wp2_with (go_at_call 41; refine (max_fn _ _ _).mono ?_; rintro e w3 ⟨rfl, rfl⟩)
        go_roundw
        case rel =>
          refine ⟨j + 1, by omega, by go_num, ?_, by simpa using X3.out⟩
          rw [T.out, ← HO1.out, HJ0.out]
          have h1 := HZ0.out HJ0.out
          have h2 := HHH.out
          simp only [topG]
          congr 1
          omega
        case measure => simp [intOf]; omega
      · have t0 : ((j : Int) == 0) = false := by rw [beq_eq_false_iff_ne]; omega
        go_wp2_with (go_at_call 41; refine (max_fn _ _ _).mono ?_; rintro e w3 ⟨rfl, rfl⟩)
        go_roundw
        case rel => exact ⟨j + 1, by omega, by go_num, by rw [T.out], by simpa using X3.out⟩
        case measure => simp [intOf]; omega
    · obtain rfl : j = l.length := by omega
      go_wp2
      go_ret
      exact ⟨rfl, hO⟩

set_option maxRecDepth 20000 in
set_option maxHeartbeats 4000000 in
theorem extreme_bot {w : World} {k n : Nat} {l : List StaffR} (cap : Nat) (h : Stv w k l n) (ms : Nat → Int) (g m c : Nat) (hm : ∀ i, i < l.length → w.cell? ⟨g, i, none⟩ = some (.int .i64 (ms i))) (hlm : l.length ≤ m) (hg : g < w.heap.size) (hr : ∀ i, i < l.length → -1000000 ≤ ms i ∧ ms i ≤ 1000000) (hz : ms 0 = 0) :
    Calls Try.prog 39 #[.slice (some ⟨k, 0, none⟩) l.length cap, .slice (some ⟨g, 0, none⟩) m c, .func (.func 42) #[] #[], .func (.func 43) #[] #[]] w
      fun e w' => e = .returned (.int .i64 (botG (l.map StaffR.v) ms l.length)) ∧ Only [] w w' := by
  have hp := h.pos
  have hf := h.few
  have H := Lib.hid h
  have HM := Lib.hid hm
  have HR := Lib.hid hr
  have HZ := Lib.hid hz
  have HG := Lib.hid hg
  clear h hm hr hz hg
  go_enter Try.func39, Try.ntmps39
  go_wp2
  go_loopw [9, 18] (fun o i wr => ∃ j : Nat, j ≤ l.length ∧ i = .int .i64 j ∧ o = .int .i64 (botG (l.map StaffR.v) ms j) ∧ Only [] w wr) (fun _ i _ => l.length - (intOf i).toNat)
  case atStart => exact ⟨0, by omega, rfl, rfl, Only.refl _ _⟩
  case round =>
    obtain ⟨j, hj, rfl, rfl, hO⟩ := hrel
    by_cases hlt : j < l.length
    · have hS := H.out.newer hO (by simp)
      have j0 : (0 : Int) ≤ (j : Int) := by omega
      have j1 : (j : Int) < (l.length : Int) := by omega
      have jm : (j : Int) < (m : Int) := by omega
      have c0 : wr.cell? ⟨k, j * 3, none⟩ = some (.pointer (some ⟨l[j].sa, 0, none⟩)) := hS.cell j hlt 0 _ rfl
      have c1 : wr.cell? ⟨k, j * 3 + 1, none⟩ = some (.pointer (some ⟨l[j].sb, 0, none⟩)) := hS.cell j hlt 1 _ rfl
      have c2 : wr.cell? ⟨k, j * 3 + 2, none⟩ = some (.int .i64 l[j].v.part) := hS.cell j hlt 2 _ rfl
      have HK := Lib.hid ((hS.ok j hlt).newer ((Only.refl [] wr).alloc (.cells #[.pointer (some ⟨l[j].sa, 0, none⟩), .pointer (some ⟨l[j].sb, 0, none⟩), .int .i64 l[j].v.part] 50)) (by simp))
      have X1 := Lib.hid (hO.alloc (.cells #[.pointer (some ⟨l[j].sa, 0, none⟩), .pointer (some ⟨l[j].sb, 0, none⟩), .int .i64 l[j].v.part] 50))
      have hM := maxL_low 0 8128 (by rw [(hS.ok j hlt).lb]; exact hS.npos) (hS.low j hlt).2
      have hnp := hS.npos
      have hrj := HR.out j hlt
      have T : Hid (botG (l.map StaffR.v) ms (j + 1) = min (botG (l.map StaffR.v) ms j) (min (ms j) (ms j - maxL l[j].v.hb))) := Lib.hid (by rw [botG, getD_map hlt])
      have hz0 : j = 0 → ms j = 0 := fun e => by rw [e]; exact HZ.out
      have HZ0 := Lib.hid hz0
      have HMJ := Lib.hid (HM.out j hlt)
      have MI := Lib.hid (fun W (hW : Only [] (wr.alloc (.cells #[.pointer (some ⟨l[j].sa, 0, none⟩), .pointer (some ⟨l[j].sb, 0, none⟩), .int .i64 l[j].v.part] 50)) W) => most_is ((HK.out.below).only hW (by simp) (by simp)) HK.out.lb hnp)
      generalize maxL l[j].v.hb = M at *
      generalize ms j = mj at *
      obtain ⟨o1, ho1⟩ : ∃ o, botG (l.map StaffR.v) ms j = o := ⟨_, rfl⟩
      rw [ho1] at T ⊢
      have HO1 := Lib.hid ho1
      have e1 : IntKind.i64.wrap ((n : Int) - 1) = (n : Int) - 1 := IntWalk.i64_in _ (by have := H.out.nfew; omega)
      have e2 : IntKind.i64.wrap (mj - M) = mj - M := IntWalk.i64_in _ (by omega)
      clear hS hz0 ho1
      obtain ⟨N1, hN1⟩ : ∃ N1, -1 * M = N1 := ⟨_, rfl⟩
      rw [hN1] at MI
      have e3 : mj + N1 = mj - M := by omega
      have HN1 := Lib.hid hN1
      clear hN1
      go_wp2_with (first
        | (go_at_call 42; refine (below_fn _ _ _ _).mono ?_; rintro e w2 ⟨rfl, o2⟩)
        | (go_at_call 25; refine (ncols_is ((HK.out.below).only o2 (by simp) (by simp)) HK.out.lb).mono ?_; rintro e w3 ⟨rfl, rfl⟩)
        | (go_at_call 58; refine (MI.out _ o2).mono ?_; rintro e w3 ⟨rfl, nq3, rfl⟩))
      have X2 := Lib.hid ((X1.out.trans o2).drewN nq3)
      have m0 : (w2.drewN nq3).cell? ⟨g, j, none⟩ = some (.int .i64 mj) := (X2.out.cell (p := ⟨g, j, none⟩) HG.out (by simp)).trans HMJ.out
      have m1 : w2.cell? ⟨g, j, none⟩ = some (.int .i64 mj) := m0
      have e4 : IntKind.i64.wrap (mj + N1) = mj - M := by rw [e3]; exact e2
      obtain ⟨hh, hhh⟩ : ∃ hh, min mj (mj - M) = hh := ⟨_, rfl⟩
      have MF := Lib.hid (fun W => min_fn mj (mj - M) W)
      rw [hhh] at MF
      rw [hhh] at T
      have HHH := Lib.hid hhh
      clear hhh m0
      clear c0 c1 c2
      go_quiet ((go_at_call 43; exact quiet_add_left (MF.out _)))
      have X3 := Lib.hid (X2.out.drewN nq)
      by_cases hj0 : j = 0
      · have t0 : ((j : Int) == 0) = true := by simp [hj0]
        have HJ0 := Lib.hid hj0
        clear hj0
        go_wp2_with (go_at_call 43; refine (min_fn _ _ _).mono ?_; rintro e w3 ⟨rfl, rfl⟩)
        go_roundw
        case rel =>
          refine ⟨j + 1, by omega, by go_num, ?_, by simpa using X3.out⟩
          rw [T.out, ← HO1.out, HJ0.out]
          have h1 := HZ0.out HJ0.out
          have h2 := HHH.out
          simp only [botG]
          congr 1
          omega
        case measure => simp [intOf]; omega
      · have t0 : ((j : Int) == 0) = false := by rw [beq_eq_false_iff_ne]; omega
        go_wp2_with (go_at_call 43; refine (min_fn _ _ _).mono ?_; rintro e w3 ⟨rfl, rfl⟩)
        go_roundw
        case rel => exact ⟨j + 1, by omega, by go_num, by rw [T.out], by simpa using X3.out⟩
        case measure => simp [intOf]; omega
    · obtain rfl : j = l.length := by omega
      go_wp2
      go_ret
      exact ⟨rfl, hO⟩
end Go.Proofs.Yticpophdoiljfaa
