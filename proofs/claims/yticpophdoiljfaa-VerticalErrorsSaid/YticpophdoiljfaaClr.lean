/- DERIVED. Vertical: Clear; the statements' height and clear. -/
import Derived.Test.YticpophdoiljfaaNea
namespace Go.Proofs.Yticpophdoiljfaa
open Go.RowKit
attribute [local go_sem ↓] Go.wp_at_zero Go.wp_at_succ

/-- No two neighbouring staves overlap. -/
def ClearP (l : List StaffR) (ms : List Int) (gap : Int) : Prop :=
  ∀ i (h : i + 1 < l.length), ∀ c (h1 : c < l[i].v.hb.length) (h2 : c < l[i + 1].v.ha.length), l[i + 1].v.ha[c] + ms.getD (i + 1) 0 + gap ≤ ms.getD i 0 - l[i].v.hb[c]
noncomputable def clearB (l : List StaffR) (ms : List Int) (gap : Int) : Bool := @decide (ClearP l ms gap) (Classical.propDecidable _)
theorem clearB_true {l : List StaffR} {ms : List Int} {gap : Int} (h : ClearP l ms gap) : clearB l ms gap = true := by simp [clearB, h]
theorem clearB_false {l : List StaffR} {ms : List Int} {gap : Int} (h : ¬ ClearP l ms gap) : clearB l ms gap = false := by simp [clearB, h]

theorem at_is {w : World} {s g c : Nat} {side v : Int} {h : List Int} (hs : Sky w s g side h) (hc : c < h.length) (hv : side * h[c] = v) :
    Calls Try.prog 44 #[.pointer (some ⟨s, 0, none⟩), .int .i64 c] w fun e w' => e = .returned (.tuple #[.int .i64 v, .int .i64 0]) ∧ ∃ n, w' = w.drewN n :=
  (at_any hs c).mono fun e w' ⟨he, hn⟩ => ⟨by rw [he, mostV_self hc, colErr_self hc, hv], hn⟩
set_option maxRecDepth 20000 in
set_option maxHeartbeats 400000 in
theorem height_is {w : World} {s g c : Nat} {side v : Int} {h : List Int} (hs : Sky w s g side h) (hc : c < h.length) (hv : side * h[c] = v) :
    Calls Try.prog 46 #[.pointer (some ⟨s, 0, none⟩), .int .i64 c] w fun e w' => e = .returned (.int .i64 v) ∧ ∃ n, w' = w.drewN n := by
  have HA := Lib.hid (at_is hs hc hv)
  go_enter Try.func46, Try.ntmps46
  go_wp2_with (go_at_call 44; refine HA.out.mono ?_; rintro e w1 ⟨rfl, n, rfl⟩)
  go_ret
  exact ⟨rfl, n, rfl⟩
theorem quiet_addE {P : Program} {f : FuncId} {args : Array Value} {w : World} {a n : Nat} {v : Value}
    (h : Calls P f args (w.drewN (a + n)) fun e w' => e = .returned v ∧ ∃ m, w' = (w.drewN (a + n)).drewN m) :
    Calls P f args (w.drewN (a + n)) fun e w'' => e = .returned v ∧ ∃ m, w'' = w.drewN (a + m) :=
  h.mono fun _ _ ⟨he, m, hm⟩ => ⟨he, n + m, by rw [hm, World.drewN_drewN, Nat.add_assoc]⟩
theorem sky_cell {h : List Int} {n c : Nat} (hl : h.length = n) (hc : c < n) : c < h.length := by omega

/-- What the two loops are about, at one pair of staves. -/
structure PairOK (W : World) (n : Nat) (a b : StaffR) : Prop where
  below : Sky W a.sb a.gb (-1) a.v.hb
  above : Sky W b.sa b.ga 1 b.v.ha
  lb : a.v.hb.length = n
  la : b.v.ha.length = n
  low : (∀ x ∈ b.v.ha, 0 ≤ x ∧ x ≤ 8128) ∧ (∀ x ∈ a.v.hb, 0 ≤ x ∧ x ≤ 8128)
theorem Stv.pair {W : World} {k n : Nat} {l : List StaffR} (h : Stv W k l n) (q : Nat) (hq : q + 1 < l.length) : PairOK W n l[q] l[q + 1] :=
  ⟨(h.ok q (by omega)).below, (h.ok (q + 1) hq).above, (h.ok q (by omega)).lb, (h.ok (q + 1) hq).la, (h.low (q + 1) hq).1, (h.low q (by omega)).2⟩
/-- The pair's columns ahead of c do not overlap. -/
def PairTo (a b : StaffR) (x y gap : Int) (c : Nat) : Prop := ∀ p (h1 : p < a.v.hb.length) (h2 : p < b.v.ha.length), p < c → b.v.ha[p] + y + gap ≤ x - a.v.hb[p]

/-- What Clear says. -/
def ClrP (l : List StaffR) (ms : List Int) (t b gap : Int) : Prop := Proper ms t b ∧ ms.length = l.length ∧ (0 ≤ gap ∧ gap ≤ 65536) ∧ ClearP l ms gap
noncomputable def clrB (l : List StaffR) (ms : List Int) (t b gap : Int) : Bool := @decide (ClrP l ms t b gap) (Classical.propDecidable _)
theorem clrB_true {l : List StaffR} {ms : List Int} {t b gap : Int} (h : ClrP l ms t b gap) : clrB l ms t b gap = true := by simp [clrB, h]
theorem clrB_false {l : List StaffR} {ms : List Int} {t b gap : Int} (h : ¬ ClrP l ms t b gap) : clrB l ms t b gap = false := by simp [clrB, h]

set_option maxRecDepth 20000 in
set_option maxHeartbeats 8000000 in
theorem Clear_any {w : World} {k n : Nat} {l : List StaffR} (cap : Nat) (h : Stv w k l n) {A : Option Addr} {ms : List Int} (c : Nat) (t b gap : Int) (hI : IntsAt w A ms) (hl : ms.length ≤ 8) :
    Calls Try.prog 18 #[.slice (some ⟨k, 0, none⟩) l.length cap, sysV A ms.length c t b, .int .i64 gap] w fun e w' => e = .returned (.bool (clrB l ms t b gap)) ∧ Only [] w w' := by
  have hp := h.pos
  have hf := h.few
  have X := Lib.hid ((Only.refl [] w).alloc (sysBox A ms.length c t b))
  have HB := Lib.hid (Blk.new w 24 [.slice A ms.length c, .int .i64 t, .int .i64 b])
  have HI := Lib.hid (hI.only X.out (by simp))
  have H := Lib.hid (h.newer X.out (by simp))
  clear hI h
  rcases properB_cases ms t b with ⟨hpr, hpb⟩ | ⟨hpr, hpb⟩
  · have HPR := Lib.hid hpr
    have HPB := Lib.hid hpb
    have hz := hpr.pos
    clear hpr hpb
    by_cases hlm : ms.length = l.length
    · have n1 : ((ms.length : Int) != (l.length : Int)) = false := by simp; omega
      have HLM := Lib.hid hlm
      clear hlm
      by_cases g0 : 0 ≤ gap
      · by_cases g1 : gap ≤ 65536
        · skip
          go_enter Try.func18, Try.ntmps18
          go_wp2_with (first
            | (go_at_call 34; refine (Check_ok cap H.out).mono ?_; rintro e w1 ⟨rfl, o1⟩; obtain ⟨b1, b10, b11, b12⟩ := sys_cells HB.out o1)
            | (go_at_call 35; refine (vproper_any c t b (HI.out.only o1 (by simp)) hl).mono ?_; rintro e W1 ⟨rfl, o2⟩; rw [HPB.out]; obtain ⟨b2, b20, b21, b22⟩ := sys_cells b1 o2))
          have hlm1 : ms.length ≤ l.length := Nat.le_of_eq HLM.out
          have hlm2 : l.length ≤ ms.length := Nat.le_of_eq HLM.out.symm
          have X1 := Lib.hid ((X.out.trans o1).trans o2)
          have HS := Lib.hid (H.out.newer (o1.trans o2) (by simp))
          obtain ⟨bA, off, rfl, hbA, hc⟩ := (HI.out.only (o1.trans o2) (by simp)).flat hz
          have HC := Lib.hid hc
          have HR := Lib.hid (fun i (hi : i < ms.length) => HPR.out.rng i hi)
          clear hc b1 b10 b11 b12 b2 b21 b22 o1 o2 HB HI X H n1
          go_loopw [7] (fun i wr => ∃ j a : Nat, 1 ≤ j ∧ j ≤ l.length ∧ i = .int .i64 j ∧ wr = W1.drewN a ∧ ∀ q (h : q + 1 < l.length), q + 1 < j → PairTo l[q] l[q + 1] (ms.getD q 0) (ms.getD (q + 1) 0) gap n) (fun i _ => l.length - (intOf i).toNat)
          case atStart => exact ⟨1, 0, Nat.le_refl _, hp, rfl, rfl, fun q _ hq => absurd hq (by omega)⟩
          case round =>
            obtain ⟨j, a, hj1, hj, rfl, rfl, hdone⟩ := hrel
            have HDONE := Lib.hid hdone
            clear hdone
            by_cases hlt : j < l.length
            · obtain ⟨q, rfl⟩ : ∃ q, j = q + 1 := ⟨j - 1, by omega⟩
              have j0 : (0 : Int) ≤ ((q + 1 : Nat) : Int) := by omega
              have j1 : ((q + 1 : Nat) : Int) < (l.length : Int) := by omega
              have j1p : (q : Int) + 1 < (l.length : Int) := by omega
              have j1d : decide ((q : Int) + 1 < (l.length : Int)) = true := by simpa using j1p
              have j1m : ((q + 1 : Nat) : Int) < (ms.length : Int) := by omega
              have j2 : (((q + 1 : Nat) : Int) - 1) = (q : Int) := by omega
              have j3 : IntKind.i64.wrap ((q : Int)) = (q : Int) := IntWalk.i64_in _ (by omega)
              have j4 : (0 : Int) ≤ (q : Int) := by omega
              have j5 : (q : Int) < (l.length : Int) := by omega
              have j5m : (q : Int) < (ms.length : Int) := by omega
              have c0 : W1.cell? ⟨k, (q + 1) * 3, none⟩ = some (.pointer (some ⟨l[q + 1].sa, 0, none⟩)) := HS.out.cell (q + 1) hlt 0 _ rfl
              have c1 : W1.cell? ⟨k, q * 3 + 1, none⟩ = some (.pointer (some ⟨l[q].sb, 0, none⟩)) := HS.out.cell q (by omega) 1 _ rfl
              have m0 := HC.out (q + 1) (by omega)
              have m1 := HC.out q (by omega)
              have GQ := Lib.hid (getD_get (show q < ms.length by omega))
              have GJ := Lib.hid (getD_get (show q + 1 < ms.length by omega))
              have rq := HR.out q (by omega)
              have rj := HR.out (q + 1) (by omega)
              have PO := Lib.hid (HS.out.pair q hlt)
              have STEP := Lib.hid (show PairTo l[q] l[q + 1] (ms.getD q 0) (ms.getD (q + 1) 0) gap n → ∀ p (h : p + 1 < l.length), p + 1 < q + 1 + 1 → PairTo l[p] l[p + 1] (ms.getD p 0) (ms.getD (p + 1) 0) gap n from fun hP p hp1 hp2 => by
                by_cases e : p = q
                · subst e; exact hP
                · exact HDONE.out p hp1 (by omega))
              have FAIL := Lib.hid (show (¬ PairTo l[q] l[q + 1] (ms.getD q 0) (ms.getD (q + 1) 0) gap n) → ¬ ClearP l ms gap from fun hP hc => hP fun p h1 h2 _ => hc q hlt p h1 h2)
              rw [GQ.out, GJ.out] at STEP FAIL
              generalize ms[q] = xq at *
              generalize ms[q + 1] = xj at *
              obtain ⟨ra, hra⟩ : ∃ r, l[q] = r := ⟨_, rfl⟩
              obtain ⟨rb, hrb⟩ : ∃ r, l[q + 1] = r := ⟨_, rfl⟩
              have HRA := Lib.hid hra
              have HRB := Lib.hid hrb
              rw [hra] at c1 PO STEP FAIL
              rw [hrb] at c0 PO STEP FAIL
              clear hra hrb
              have hnn := HS.out.nfew
              have CC := Lib.hid (fun i => ncols_is (PO.out.above.drewN i) PO.out.la)
              go_wp2_with (go_at_call 25; refine (CC.out _).mono ?_; rintro e w5 ⟨rfl, rfl⟩)
              go_loopw [49] (fun i wr => ∃ c a : Nat, c ≤ n ∧ i = .int .i64 c ∧ wr = W1.drewN a ∧ PairTo ra rb xq xj gap c) (fun i _ => n - (intOf i).toNat)
              case atStart => exact ⟨0, _, Nat.zero_le _, rfl, rfl, fun p _ _ hp => absurd hp (by omega)⟩
              case round =>
                obtain ⟨c, a2, hc, rfl, rfl, hP⟩ := hrel
                have HP := Lib.hid hP
                clear hP
                by_cases hcn : c < n
                · have hcb := sky_cell PO.out.lb hcn
                  have hca := sky_cell PO.out.la hcn
                  have i0 : (0 : Int) ≤ (c : Int) := by omega
                  have i1 : (c : Int) < (n : Int) := by omega
                  have r1 := PO.out.low.1 _ (List.getElem_mem hca)
                  have r2 := PO.out.low.2 _ (List.getElem_mem hcb)
                  obtain ⟨lo, hlo⟩ : ∃ lo, -1 * ra.v.hb[c] = lo := ⟨_, rfl⟩
                  obtain ⟨hi, hhi⟩ : ∃ hi, 1 * rb.v.ha[c] = hi := ⟨_, rfl⟩
                  have A1 := Lib.hid (fun i => at_is (PO.out.below.drewN i) hcb hlo)
                  have A2 := Lib.hid (fun i => at_is (PO.out.above.drewN i) hca hhi)
                  have VAL : Hid (rb.v.ha[c] = hi ∧ ra.v.hb[c] = -lo) := Lib.hid ⟨by omega, by omega⟩
                  have b1 : -8128 ≤ lo ∧ lo ≤ 0 := by omega
                  have b2 : 0 ≤ hi ∧ hi ≤ 8128 := by omega
                  clear hlo hhi r1 r2
                  have w1 : IntKind.i64.wrap (lo + xq) = (lo + xq) := IntWalk.i64_in _ (by omega)
                  have w2 : IntKind.i64.wrap (hi + xj) = (hi + xj) := IntWalk.i64_in _ (by omega)
                  have w3 : IntKind.i64.wrap ((hi + xj) + gap) = (hi + xj) + gap := IntWalk.i64_in _ (by omega)
                  by_cases hok : (hi + xj) + gap ≤ (lo + xq)
                  · have hok' : ¬ (lo + xq) < (hi + xj) + gap := by omega
                    go_wp2_with (first
                      | (have _t := tk; go_at_call 44; refine (A2.out _).mono ?_; rintro e w6 ⟨rfl, n6, rfl⟩)
                      | (go_at_call 44; refine (A1.out _).mono ?_; rintro e w6 ⟨rfl, n5, rfl⟩; have tk := True.intro))
                    go_quiet (fail)
                    go_wp2
                    go_roundw
                    case rel =>
                      refine ⟨c + 1, _, by omega, by go_num, rfl, fun p h1 h2 hp => ?_⟩
                      by_cases e : p = c
                      · subst e
                        have := VAL.out
                        rw [this.1, this.2]
                        omega
                      · exact HP.out p h1 h2 (by omega)
                    case measure => simp [intOf]; omega
                  · have hok' : (lo + xq) < (hi + xj) + gap := by omega
                    go_wp2_with (first
                      | (have _t := tk; go_at_call 44; refine (A2.out _).mono ?_; rintro e w6 ⟨rfl, n6, rfl⟩)
                      | (go_at_call 44; refine (A1.out _).mono ?_; rintro e w6 ⟨rfl, n5, rfl⟩; have tk := True.intro))
                    go_quiet (fail)
                    go_wp2
                    go_ret
                    refine ⟨ret_bool (clrB_false fun hh => FAIL.out (fun hP => ?_) hh.2.2.2).symm, by first | exact X1.out.drewN _ | exact (X1.out.drewN _).drewN _⟩
                    have h9 := hP c hcb hca hcn
                    have := VAL.out
                    rw [this.1, this.2] at h9
                    omega
                · obtain rfl : c = n := by omega
                  go_wp2
                  go_roundw
                  case rel => exact ⟨q + 1 + 1, _, by omega, by omega, by go_num, rfl, STEP.out HP.out⟩
                  case measure => simp [intOf]; omega
            · obtain rfl : j = l.length := by omega
              go_wp2
              go_ret
              exact ⟨ret_bool (clrB_true ⟨HPR.out, HLM.out, ⟨g0, g1⟩, fun q hq c h1 h2 => HDONE.out q hq hq c h1 h2 (by have := (HS.out.pair q hq).lb; omega)⟩).symm, X1.out.drewN _⟩
        · have HN := Lib.hid g1
          go_enter Try.func18, Try.ntmps18
          go_wp2_with (first
            | (go_at_call 34; refine (Check_ok cap H.out).mono ?_; rintro e w1 ⟨rfl, o1⟩; obtain ⟨b1, b10, b11, b12⟩ := sys_cells HB.out o1)
            | (go_at_call 35; refine (vproper_any c t b (HI.out.only o1 (by simp)) hl).mono ?_; rintro e W1 ⟨rfl, o2⟩; rw [HPB.out]; obtain ⟨b2, b20, b21, b22⟩ := sys_cells b1 o2))
          go_ret
          exact ⟨ret_bool (clrB_false fun hh => by have := HN.out; have := hh.2.2.1; omega).symm, (X.out.trans o1).trans o2⟩
      · have HN := Lib.hid g0
        go_enter Try.func18, Try.ntmps18
        go_wp2_with (first
          | (go_at_call 34; refine (Check_ok cap H.out).mono ?_; rintro e w1 ⟨rfl, o1⟩; obtain ⟨b1, b10, b11, b12⟩ := sys_cells HB.out o1)
          | (go_at_call 35; refine (vproper_any c t b (HI.out.only o1 (by simp)) hl).mono ?_; rintro e W1 ⟨rfl, o2⟩; rw [HPB.out]; obtain ⟨b2, b20, b21, b22⟩ := sys_cells b1 o2))
        go_ret
        exact ⟨ret_bool (clrB_false fun hh => by have := HN.out; have := hh.2.2.1; omega).symm, (X.out.trans o1).trans o2⟩
    · have HN := Lib.hid hlm
      have n1 : ((ms.length : Int) != (l.length : Int)) = true := by simp; omega
      clear hlm
      go_enter Try.func18, Try.ntmps18
      go_wp2_with (first
        | (go_at_call 34; refine (Check_ok cap H.out).mono ?_; rintro e w1 ⟨rfl, o1⟩; obtain ⟨b1, b10, b11, b12⟩ := sys_cells HB.out o1)
        | (go_at_call 35; refine (vproper_any c t b (HI.out.only o1 (by simp)) hl).mono ?_; rintro e W1 ⟨rfl, o2⟩; rw [HPB.out]; obtain ⟨b2, b20, b21, b22⟩ := sys_cells b1 o2))
      go_ret
      exact ⟨ret_bool (clrB_false fun hh => HN.out hh.2.1).symm, (X.out.trans o1).trans o2⟩
  · have HN := Lib.hid hpr
    have HPB := Lib.hid hpb
    clear hpr hpb
    go_enter Try.func18, Try.ntmps18
    go_wp2_with (first
      | (go_at_call 34; refine (Check_ok cap H.out).mono ?_; rintro e w1 ⟨rfl, o1⟩; obtain ⟨b1, b10, b11, b12⟩ := sys_cells HB.out o1)
      | (go_at_call 35; refine (vproper_any c t b (HI.out.only o1 (by simp)) hl).mono ?_; rintro e W1 ⟨rfl, o2⟩; rw [HPB.out]; obtain ⟨b2, b20, b21, b22⟩ := sys_cells b1 o2))
    go_ret
    exact ⟨ret_bool (clrB_false fun hh => HN.out hh.1).symm, (X.out.trans o1).trans o2⟩

set_option maxRecDepth 20000 in
set_option maxHeartbeats 8000000 in
theorem mclear_any {w : World} {k n : Nat} {l : List StaffR} (cap : Nat) (h : Stv w k l n) {A : Option Addr} {ms : List Int} (c : Nat) (t b gap : Int) (hI : IntsAt w A ms) (hl : ms.length ≤ 8) (hpr : Proper ms t b) (hlm : ms.length = l.length) (g0 : 0 ≤ gap) (g1 : gap ≤ 65536) :
    Calls Try.prog 20 #[.slice (some ⟨k, 0, none⟩) l.length cap, sysV A ms.length c t b, .int .i64 gap] w fun e w' => e = .returned (.bool (clearB l ms gap)) ∧ Only [] w w' := by
  have hp := h.pos
  have hf := h.few
  have X1 := Lib.hid ((Only.refl [] w).alloc (sysBox A ms.length c t b))
  have b20 : (w.alloc (sysBox A ms.length c t b)).cell? ⟨w.heap.size, 0, none⟩ = some (.slice A ms.length c) := (Blk.new w 24 [.slice A ms.length c, .int .i64 t, .int .i64 b]).cell 0
  have HS := Lib.hid (h.newer X1.out (by simp))
  obtain ⟨bA, off, rfl, hbA, hc⟩ := (hI.only X1.out (by simp)).flat hpr.pos
  have HC := Lib.hid hc
  have HR := Lib.hid (fun i (hi : i < ms.length) => hpr.rng i hi)
  have HLM := Lib.hid hlm
  clear hc h hI hpr hlm
  go_enter Try.func20, Try.ntmps20
  go_wp2
  have hlm1 : ms.length ≤ l.length := Nat.le_of_eq HLM.out
  have hlm2 : l.length ≤ ms.length := Nat.le_of_eq HLM.out.symm
  obtain ⟨W1, hW1⟩ : ∃ W1, w.alloc (sysBox (some ⟨bA, off, none⟩) ms.length c t b) = W1 := ⟨_, rfl⟩
  have hW1' : w.alloc (.cells #[.slice (some ⟨bA, off, none⟩) ms.length c, .int .i64 t, .int .i64 b] 24) = W1 := hW1
  rw [hW1] at X1 HS HC hbA b20
  rw [hW1']
  generalize w.heap.size = BX at *
  clear hW1 hW1'
  go_loopw [7] (fun i wr => ∃ j a : Nat, 1 ≤ j ∧ j ≤ l.length ∧ i = .int .i64 j ∧ wr = W1.drewN a ∧ ∀ q (h : q + 1 < l.length), q + 1 < j → PairTo l[q] l[q + 1] (ms.getD q 0) (ms.getD (q + 1) 0) gap n) (fun i _ => l.length - (intOf i).toNat)
  case atStart => exact ⟨1, 0, Nat.le_refl _, hp, rfl, rfl, fun q _ hq => absurd hq (by omega)⟩
  case round =>
    obtain ⟨j, a, hj1, hj, rfl, rfl, hdone⟩ := hrel
    have HDONE := Lib.hid hdone
    clear hdone
    by_cases hlt : j < l.length
    · obtain ⟨q, rfl⟩ : ∃ q, j = q + 1 := ⟨j - 1, by omega⟩
      have j0 : (0 : Int) ≤ ((q + 1 : Nat) : Int) := by omega
      have j1 : ((q + 1 : Nat) : Int) < (l.length : Int) := by omega
      have j1p : (q : Int) + 1 < (l.length : Int) := by omega
      have j1d : decide ((q : Int) + 1 < (l.length : Int)) = true := by simpa using j1p
      have j1m : ((q + 1 : Nat) : Int) < (ms.length : Int) := by omega
      have j2 : (((q + 1 : Nat) : Int) - 1) = (q : Int) := by omega
      have j3 : IntKind.i64.wrap ((q : Int)) = (q : Int) := IntWalk.i64_in _ (by omega)
      have j4 : (0 : Int) ≤ (q : Int) := by omega
      have j5 : (q : Int) < (l.length : Int) := by omega
      have j5m : (q : Int) < (ms.length : Int) := by omega
      have c0 : W1.cell? ⟨k, (q + 1) * 3, none⟩ = some (.pointer (some ⟨l[q + 1].sa, 0, none⟩)) := HS.out.cell (q + 1) hlt 0 _ rfl
      have c1 : W1.cell? ⟨k, q * 3 + 1, none⟩ = some (.pointer (some ⟨l[q].sb, 0, none⟩)) := HS.out.cell q (by omega) 1 _ rfl
      have m0 := HC.out (q + 1) (by omega)
      have m1 := HC.out q (by omega)
      have GQ := Lib.hid (getD_get (show q < ms.length by omega))
      have GJ := Lib.hid (getD_get (show q + 1 < ms.length by omega))
      have rq := HR.out q (by omega)
      have rj := HR.out (q + 1) (by omega)
      have PO := Lib.hid (HS.out.pair q hlt)
      have STEP := Lib.hid (show PairTo l[q] l[q + 1] (ms.getD q 0) (ms.getD (q + 1) 0) gap n → ∀ p (h : p + 1 < l.length), p + 1 < q + 1 + 1 → PairTo l[p] l[p + 1] (ms.getD p 0) (ms.getD (p + 1) 0) gap n from fun hP p hp1 hp2 => by
        by_cases e : p = q
        · subst e; exact hP
        · exact HDONE.out p hp1 (by omega))
      have FAIL := Lib.hid (show (¬ PairTo l[q] l[q + 1] (ms.getD q 0) (ms.getD (q + 1) 0) gap n) → ¬ ClearP l ms gap from fun hP hc => hP fun p h1 h2 _ => hc q hlt p h1 h2)
      rw [GQ.out, GJ.out] at STEP FAIL
      generalize ms[q] = xq at *
      generalize ms[q + 1] = xj at *
      obtain ⟨ra, hra⟩ : ∃ r, l[q] = r := ⟨_, rfl⟩
      obtain ⟨rb, hrb⟩ : ∃ r, l[q + 1] = r := ⟨_, rfl⟩
      have HRA := Lib.hid hra
      have HRB := Lib.hid hrb
      rw [hra] at c1 PO STEP FAIL
      rw [hrb] at c0 PO STEP FAIL
      clear hra hrb
      have hnn := HS.out.nfew
      have CC := Lib.hid (fun i => ncols_is (PO.out.above.drewN i) PO.out.la)
      have d0 : W1.cell? ⟨k, 0, none⟩ = some (.pointer (some ⟨(l[0]).sa, 0, none⟩)) := by simpa using HS.out.cell 0 hp 0 _ rfl
      have C0 := Lib.hid (fun i => ncols_is ((HS.out.ok 0 hp).above.drewN i) (HS.out.ok 0 hp).la)
      generalize (l[0]).sa = s0 at *
      go_wp2
      rw [show ((q + 1 : Nat) : Int) = (q : Int) + 1 from rfl]
      go_loopw [8] (fun i wr => ∃ c a : Nat, c ≤ n ∧ i = .int .i64 c ∧ wr = W1.drewN a ∧ PairTo ra rb xq xj gap c) (fun i _ => n - (intOf i).toNat)
      case atStart => exact ⟨0, _, Nat.zero_le _, rfl, rfl, fun p _ _ hp => absurd hp (by omega)⟩
      case round =>
        obtain ⟨c, a2, hc, rfl, rfl, hP⟩ := hrel
        have HP := Lib.hid hP
        clear hP
        by_cases hcn : c < n
        · have hcb := sky_cell PO.out.lb hcn
          have hca := sky_cell PO.out.la hcn
          have i0 : (0 : Int) ≤ (c : Int) := by omega
          have i1 : (c : Int) < (n : Int) := by omega
          have r1 := PO.out.low.1 _ (List.getElem_mem hca)
          have r2 := PO.out.low.2 _ (List.getElem_mem hcb)
          obtain ⟨lo, hlo⟩ : ∃ lo, -1 * ra.v.hb[c] = lo := ⟨_, rfl⟩
          obtain ⟨hi, hhi⟩ : ∃ hi, 1 * rb.v.ha[c] = hi := ⟨_, rfl⟩
          have A1 := Lib.hid (fun i => height_is (PO.out.below.drewN i) hcb hlo)
          have A2 := Lib.hid (fun i => height_is (PO.out.above.drewN i) hca hhi)
          have VAL : Hid (rb.v.ha[c] = hi ∧ ra.v.hb[c] = -lo) := Lib.hid ⟨by omega, by omega⟩
          have b1 : -8128 ≤ lo ∧ lo ≤ 0 := by omega
          have b2 : 0 ≤ hi ∧ hi ≤ 8128 := by omega
          clear hlo hhi r1 r2
          have w1 : IntKind.i64.wrap (xq + lo) = (xq + lo) := IntWalk.i64_in _ (by omega)
          have w2 : IntKind.i64.wrap (xj + hi) = (xj + hi) := IntWalk.i64_in _ (by omega)
          have w3 : IntKind.i64.wrap ((xj + hi) + gap) = (xj + hi) + gap := IntWalk.i64_in _ (by omega)
          by_cases hok : (xj + hi) + gap ≤ (xq + lo)
          · have hok' : ¬ (xq + lo) < (xj + hi) + gap := by omega
            go_wp2_with (go_at_call 25; refine (C0.out _).mono ?_; rintro e w5 ⟨rfl, rfl⟩)
            go_quiet ((first
              | (go_at_call 46; with_reducible exact quiet_addE (A1.out _))
              | (go_at_call 46; with_reducible exact quiet_addE (A2.out _))
              | (go_at_call 46; with_reducible exact Calls.quiet_of (A1.out _))
              | (go_at_call 46; with_reducible exact Calls.quiet_of (A2.out _))))
            go_wp2
            go_roundw
            case rel =>
              refine ⟨c + 1, _, by omega, by go_num, rfl, fun p h1 h2 hp => ?_⟩
              by_cases e : p = c
              · subst e
                have := VAL.out
                rw [this.1, this.2]
                omega
              · exact HP.out p h1 h2 (by omega)
            case measure => simp [intOf]; omega
          · have hok' : (xq + lo) < (xj + hi) + gap := by omega
            go_wp2_with (go_at_call 25; refine (C0.out _).mono ?_; rintro e w5 ⟨rfl, rfl⟩)
            go_quiet ((first
              | (go_at_call 46; with_reducible exact quiet_addE (A1.out _))
              | (go_at_call 46; with_reducible exact quiet_addE (A2.out _))
              | (go_at_call 46; with_reducible exact Calls.quiet_of (A1.out _))
              | (go_at_call 46; with_reducible exact Calls.quiet_of (A2.out _))))
            go_wp2
            go_ret
            refine ⟨ret_bool (clearB_false (FAIL.out fun hP => ?_)).symm, by first | exact X1.out.drewN _ | exact (X1.out.drewN _).drewN _⟩
            have h9 := hP c hcb hca hcn
            have := VAL.out
            rw [this.1, this.2] at h9
            omega
        · obtain rfl : c = n := by omega
          go_wp2_with (go_at_call 25; refine (C0.out _).mono ?_; rintro e w5 ⟨rfl, rfl⟩)
          go_roundw
          case rel => exact ⟨q + 1 + 1, _, by omega, by omega, by go_num, rfl, STEP.out HP.out⟩
          case measure => simp [intOf]; omega
    · obtain rfl : j = l.length := by omega
      go_wp2
      go_ret
      exact ⟨ret_bool (clearB_true fun q hq c h1 h2 => HDONE.out q hq hq c h1 h2 (by have := (HS.out.pair q hq).lb; omega)).symm, X1.out.drewN _⟩
end Go.Proofs.Yticpophdoiljfaa
