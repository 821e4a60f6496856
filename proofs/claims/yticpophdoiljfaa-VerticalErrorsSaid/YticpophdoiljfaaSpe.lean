/- DERIVED. Vertical: Spread where nothing is amiss. -/
import Derived.Test.YticpophdoiljfaaSpd
namespace Go.Proofs.Yticpophdoiljfaa
open Go.RowKit
attribute [local go_sem ↓] Go.wp_at_zero Go.wp_at_succ

/-- The middle lines when the first k have been moved. -/
def spreadTo (ms ps : List Int) (extra : Int) (k : Nat) : List Int := (List.range ms.length).map fun i => if i < k then spreadAt ms ps extra i else ms.getD i 0
theorem spreadTo_len (ms ps : List Int) (extra : Int) (k : Nat) : (spreadTo ms ps extra k).length = ms.length := by simp [spreadTo]
theorem spreadTo_get (ms ps : List Int) (extra : Int) (k i : Nat) (hi : i < (spreadTo ms ps extra k).length) : (spreadTo ms ps extra k)[i] = if i < k then spreadAt ms ps extra i else ms.getD i 0 := by simp [spreadTo]
theorem spreadTo_one (ms ps : List Int) (extra : Int) : spreadTo ms ps extra 1 = ms := by
  apply List.ext_getElem (by simp [spreadTo_len])
  intro i h1 h2
  rw [spreadTo_get]
  split
  · obtain rfl : i = 0 := by omega
    rw [spreadAt, getD_get h2]
    simp [wtTo]
  · exact getD_get h2
theorem spreadTo_succ (ms ps : List Int) (extra : Int) (k : Nat) (hk : k < ms.length) : spreadTo ms ps extra (k + 1) = (spreadTo ms ps extra k).set k (spreadAt ms ps extra k) := by
  apply List.ext_getElem (by simp [spreadTo_len])
  intro i h1 h2
  rw [List.getElem_set, spreadTo_get]
  by_cases e : k = i
  · subst e
    rw [if_pos rfl, if_pos (by omega)]
  · rw [if_neg e, spreadTo_get]
    by_cases c : i < k
    · rw [if_pos c, if_pos (by omega)]
    · rw [if_neg c, if_neg (by omega)]

theorem mul_bd {x s : Int} (h0 : 0 ≤ x) (h1 : x ≤ 16777216) (h2 : 0 ≤ s) (h3 : s ≤ 16) : 0 ≤ x * s ∧ x * s ≤ 268435456 := by
  have a := Int.mul_nonneg h0 h2
  have b := Int.mul_le_mul h1 h3 h2 (by omega)
  omega
theorem quo_bd {x s wh : Int} (h0 : 0 ≤ x) (h1 : x ≤ 16777216) (h2 : 0 ≤ s) (h4 : s ≤ wh) (h5 : 1 ≤ wh) : 0 ≤ x * s / wh ∧ x * s / wh ≤ x := by
  have a := Int.mul_nonneg h0 h2
  have b := Int.mul_le_mul_of_nonneg_left h4 h0
  refine ⟨Int.ediv_nonneg a (by omega), ?_⟩
  have := Int.ediv_le_ediv (by omega : 0 < wh) b
  rw [Int.mul_ediv_cancel _ (by omega : wh ≠ 0)] at this
  exact this
theorem wtTo_le (ps : List Int) : ∀ (d k : Nat), wtTo ps k ≤ wtTo ps (k + d)
  | 0, _ => Int.le_refl _
  | d + 1, k => by
    have := wtTo_le ps d k
    have := wt_rng ps (k + d)
    rw [show k + (d + 1) = k + d + 1 by omega, wtTo]
    omega

set_option maxRecDepth 20000 in
set_option maxHeartbeats 8000000 in
theorem spread_ok {w : World} {A A' : Option Addr} {ms ps : List Int} (c c' : Nat) (t b extra : Int) (hI : IntsAt w A ms) (hl : ms.length ≤ 8) (hP : IntsAt w A' ps) (hp : Proper ms t b) (hlp : ps.length = ms.length) (hs : Sorted ps) (x0 : 0 ≤ extra) (x1 : extra ≤ 16777216) :
    Calls Try.prog 29 #[sysV A ms.length c t b, .slice A' ps.length c', .int .i64 extra] w fun e w' => Spreaded w ms ps t b extra e w' := by
  have X := Lib.hid ((((Only.refl [] w).alloc (sysBox A ms.length c t b)).alloc (.cells #[.slice A' ps.length c'] 22)).alloc (.cells #[.slice none 0 0, .int .i64 0, .int .i64 0] 24))
  have BB := Lib.hid (three_boxes w A A' ms.length ps.length c c' t b)
  have HI := Lib.hid (hI.only X.out (by simp))
  have HP := Lib.hid (hP.only X.out (by simp))
  have HPW := Lib.hid hP
  have hz := hp.pos
  have hmf : ∀ (fn : Fn) (first cap : Array Value) (w : World), (Instr.makeFunc fn first cap).run Try.prog w = .ok (.func fn first cap) w := fun _ _ _ _ => rfl
  have PE := Lib.hid (show partsE ms ps t b = 0 by rw [partsE, if_pos (properB_true hp), if_pos hlp, if_pos (sortedB_true hs)])
  have HPR := Lib.hid hp
  have HLP := Lib.hid hlp
  have hb0 := hp.bot
  have hb1 : b ≤ 0 := by
    have h1 := hp.last
    have h2 := hp.rng (ms.length - 1) (by omega)
    rw [getD_get (show ms.length - 1 < ms.length by omega)] at h1
    omega
  have hl1 : ps.length ≤ ms.length := Nat.le_of_eq hlp
  have hl2 : ms.length ≤ ps.length := Nat.le_of_eq hlp.symm
  clear hI hP hp hlp hs
  go_enter Try.func29, Try.ntmps29
  go_wp2_with (go_at_call 47; refine (vparts_any c c' t b HI.out hl HP.out (by omega)).mono ?_; rintro e w1 ⟨rfl, o1⟩; rw [PE.out]; have s1 := BB.out.2.1.only o1 (by simp); have s10 := s1.cell 0; simp at s10)
  have X1 := Lib.hid (X.out.trans o1)
  have B1 := Lib.hid (BB.out.1.only o1 (by simp))
  have R1 := Lib.hid (BB.out.2.2.only o1 (by simp))
  have S1 := Lib.hid s1
  have HP1 := Lib.hid (HP.out.only o1 (by simp))
  have HI1 := Lib.hid (HI.out.only o1 (by simp))
  obtain ⟨SZ, hSZ⟩ : ∃ SZ, w.heap.size = SZ := ⟨_, rfl⟩
  have HSZ := Lib.hid hSZ
  rw [hSZ] at B1 R1 S1 s10 ⊢
  clear s1 o1 X BB HI HP hmf hSZ
  go_loopw [9, 10] (fun s k wr => ∃ q n : Nat, q + 1 ≤ ps.length ∧ k = .int .i64 ((q : Int) + 1) ∧ s = .int .i64 (wtTo ps q) ∧ wr = w1.drewN n) (fun _ k _ => ps.length - (intOf k).toNat)
  case atStart => exact ⟨0, 0, by omega, by simp, rfl, rfl⟩
  case round =>
    obtain ⟨q, n, hq, rfl, rfl, rfl⟩ := hrel
    have rq := wtTo_rng ps q
    have WT := Lib.hid (show wtTo ps (q + 1) = wtTo ps q + wt ps q from rfl)
    have WL := Lib.hid (wtTo_rng ps (ps.length - 1))
    by_cases hlt : q + 1 < ps.length
    · have rw1 := wt_rng ps q
      have HW := Lib.hid (fun i => weightfn_any c' ps (show IntsAt (w1.drewN i) A' ps from HP1.out) (by omega) q hlt (SZ + 1) (show (w1.drewN i).cell? ⟨SZ + 1, 0, none⟩ = _ from S1.out.cell 0))
      generalize wtTo ps q = s at *
      generalize wt ps q = v at *
      have j1 : (q : Int) + 1 < (ps.length : Int) := by omega
      go_wp2_with (go_at_call 49; refine (HW.out _).mono ?_; rintro e w2 ⟨rfl, n2, rfl⟩)
      go_roundw
      case rel => exact ⟨q + 1, _, by omega, by go_num, by rw [WT.out], rfl⟩
      case measure => simp [intOf]; omega
    · obtain ⟨wh, hwh⟩ : ∃ wh, wtTo ps q = wh := ⟨_, rfl⟩
      have HWH : Hid (wtTo ps (ps.length - 1) = wh) := Lib.hid (by rw [← hwh]; congr 1; omega)
      have hw0 : (q : Int) ≤ wh := by omega
      have hw1 : wh ≤ 16 := by omega
      rw [hwh]
      clear hwh
      obtain ⟨bA, off, rfl, hbA, hc⟩ := HI1.out.flat hz
      have HC := Lib.hid hc
      have y0 : w1.cell? ⟨SZ, 0, none⟩ = some (.slice (some ⟨bA, off, none⟩) ms.length c) := B1.out.cell 0
      have y1 : w1.cell? ⟨SZ, 1, none⟩ = some (.int .i64 t) := B1.out.cell 1
      have y2 : w1.cell? ⟨SZ, 2, none⟩ = some (.int .i64 b) := B1.out.cell 2
      have r0 : w1.cell? ⟨SZ + 1 + 1, 0, none⟩ = some (.slice none 0 0) := R1.out.cell 0
      have r1 : w1.cell? ⟨SZ + 1 + 1, 1, none⟩ = some (.int .i64 0) := R1.out.cell 1
      have r2 : w1.cell? ⟨SZ + 1 + 1, 2, none⟩ = some (.int .i64 0) := R1.out.cell 2
      have HCL := Lib.hid (fun W (hW : Only [] w1 W) => sclone_gen bA off c ms hz (by omega) (fun i hi => (hW.cell (p := ⟨bA, off + i, none⟩) hbA (by simp)).trans (HC.out i hi)))
      have e1 : IntKind.i64.wrap (b - extra) = b - extra := IntWalk.i64_in _ (by omega)
      clear hc
      go_wp2
      go_region_held3 (fun w' => w'.cell? ⟨SZ, 0, none⟩ = some (.slice (some ⟨bA, off, none⟩) ms.length c) ∧ w'.cell? ⟨SZ, 1, none⟩ = some (.int .i64 t) ∧ w'.cell? ⟨SZ, 2, none⟩ = some (.int .i64 b)) (first | exact ⟨y0, y1, y2⟩ | exact ⟨x0', x1', x2'⟩ | exact ⟨(((B5.out.far (by show SZ ≠ SZ + 1 + 1; omega) _).far (by show SZ ≠ SZ + 1 + 1; omega) _).far (by show SZ ≠ SZ + 1 + 1; omega) _).cell 0, (((B5.out.far (by show SZ ≠ SZ + 1 + 1; omega) _).far (by show SZ ≠ SZ + 1 + 1; omega) _).far (by show SZ ≠ SZ + 1 + 1; omega) _).cell 1, (((B5.out.far (by show SZ ≠ SZ + 1 + 1; omega) _).far (by show SZ ≠ SZ + 1 + 1; omega) _).far (by show SZ ≠ SZ + 1 + 1; omega) _).cell 2⟩) (first | (go_at_call 50; refine (HCL.out _ (((Only.refl [] w1).drewN _).drew)).mono ?_; rintro e w5 ⟨g, cap, sp, rfl, hg, hcap, hblk, o5⟩; have O5 := Lib.hid (((((Only.refl [] w1).drewN _).drew).trans o5)); have B5 := Lib.hid (B1.out.only O5.out (by simp)); have R5 := Lib.hid (R1.out.only O5.out (by simp)); have x0' := B5.out.cell 0; have x1' := B5.out.cell 1; have x2' := B5.out.cell 2; have r0' := R5.out.cell 0; have r1' := R5.out.cell 1; have r2' := R5.out.cell 2; have fr0 := R5.out.frozen 0; have fr1 := R5.out.frozen 1; have fr2 := R5.out.frozen 2; simp at x0' x1' x2' r0' r1' r2'))
      have lR := R1.out.lt
      have hg' : w1.heap.size ≤ g := hg
      have hgR : g ≠ SZ + 1 + 1 := by omega
      have hgS : g ≠ SZ + 1 := by omega
      have R6 := Lib.hid (((R5.out.set_ 0 (.slice (some ⟨g, 0, none⟩) ms.length cap)).set_ 1 (.int .i64 t)).set_ 2 (.int .i64 (b - extra)))
      have G6 := Lib.hid (((hblk.far (p := ⟨SZ + 1 + 1, 0, none⟩) hgR (.slice (some ⟨g, 0, none⟩) ms.length cap)).far (p := ⟨SZ + 1 + 1, 1, none⟩) hgR (.int .i64 t)).far (p := ⟨SZ + 1 + 1, 2, none⟩) hgR (.int .i64 (b - extra)))
      have S6 := Lib.hid ((((S1.out.only O5.out (by simp)).far (p := ⟨SZ + 1 + 1, 0, none⟩) (by show SZ + 1 ≠ SZ + 1 + 1; omega) (.slice (some ⟨g, 0, none⟩) ms.length cap)).far (p := ⟨SZ + 1 + 1, 1, none⟩) (by show SZ + 1 ≠ SZ + 1 + 1; omega) (.int .i64 t)).far (p := ⟨SZ + 1 + 1, 2, none⟩) (by show SZ + 1 ≠ SZ + 1 + 1; omega) (.int .i64 (b - extra)))
      have X6 : Hid (Only [] w _) := Lib.hid ((((((X1.out.trans O5.out).more (T := [SZ + 1 + 1]) (by simp)).setCell (p := ⟨SZ + 1 + 1, 0, none⟩) (.inl (by simp)) (.slice (some ⟨g, 0, none⟩) ms.length cap)).setCell (p := ⟨SZ + 1 + 1, 1, none⟩) (.inl (by simp)) (.int .i64 t)).setCell (p := ⟨SZ + 1 + 1, 2, none⟩) (.inl (by simp)) (.int .i64 (b - extra))).less fun q hq hlq => by
        have := HSZ.out
        simp at hq
        omega)
      have HHG := Lib.hid hg'
      clear x0' x1' x2' r0' r1' r2' fr0 fr1 fr2 y0 y1 y2 r0 r1 r2 s10 hblk o5 O5 B5 R5 HCL hg hg'
      generalize (((w5.setCell ⟨SZ + 1 + 1, 0, none⟩ (.slice (some ⟨g, 0, none⟩) ms.length cap)).setCell ⟨SZ + 1 + 1, 1, none⟩ (.int .i64 t)).setCell ⟨SZ + 1 + 1, 2, none⟩ (.int .i64 (b - extra))) = W6 at *
      go_wp2
      go_loopw [11, 12] (fun s k wr => ∃ q : Nat, q + 1 ≤ ps.length ∧ k = .int .i64 ((q : Int) + 1) ∧ s = .int .i64 (wtTo ps q) ∧ Blk wr g 3 ((spreadTo ms ps extra (q + 1)).map (.int .i64) ++ sp) ∧ Only [g] W6 wr) (fun _ k _ => ps.length - (intOf k).toNat)
      case atStart => exact ⟨0, by omega, by simp, rfl, by rw [spreadTo_one]; exact G6.out, Only.refl _ _⟩
      case round =>
        obtain ⟨q, hq2, rfl, rfl, hG, hO⟩ := hrel
        have HG := Lib.hid hG
        have HO := Lib.hid hO
        have R7 := R6.out.only hO (by simpa using hgR.symm)
        have S7 := Lib.hid (S6.out.only hO (by simpa using hgS.symm))
        have z0 : wr.cell? ⟨SZ + 1 + 1, 0, none⟩ = some (.slice (some ⟨g, 0, none⟩) ms.length cap) := R7.cell 0
        have s7 : wr.cell? ⟨SZ + 1, 0, none⟩ = some (.slice A' ps.length c') := S7.out.cell 0
        have WT := Lib.hid (show wtTo ps (q + 1) = wtTo ps q + wt ps q from rfl)
        have HR7 := Lib.hid R7
        have HPR7 := Lib.hid (HPW.out.only ((X6.out.more (T := [g]) (by simp)).trans hO) (by intro p hp; have h1 := HSZ.out; have h2 := X1.out.size; have h3 := HHG.out; simp at hp; omega))
        clear hG hO R7
        by_cases hlt : q + 1 < ps.length
        · have rw1 := wt_rng ps q
          have rq := wtTo_rng ps q
          have HW := Lib.hid (fun i => weightfn_any c' ps (show IntsAt (wr.drewN i) A' ps from HPR7.out) (by omega) q hlt (SZ + 1) (show (wr.drewN i).cell? ⟨SZ + 1, 0, none⟩ = _ from S7.out.cell 0))
          have hqm : q + 1 < ms.length := by omega
          have g0 : wr.cell? ⟨g, q + 1, none⟩ = some (.int .i64 ms[q + 1]) := by
            rw [HG.out.cell, List.getElem?_append_left (by rw [List.length_map, spreadTo_len]; omega), List.getElem?_map, List.getElem?_eq_getElem (by rw [spreadTo_len]; omega), Option.map_some, spreadTo_get, if_neg (by omega), getD_get hqm]
          have gf := HG.out.frozen (q + 1)
          have rm := HPR.out.rng (q + 1) hqm
          have SA : Hid (spreadAt ms ps extra (q + 1) = ms[q + 1] - extra * (wtTo ps q + wt ps q) / wh) := Lib.hid (by rw [spreadAt, getD_get hqm, HWH.out]; rfl)
          have hle : wtTo ps q + wt ps q ≤ wh := by
            have h1 := wtTo_le ps (ps.length - 1 - (q + 1)) (q + 1)
            rw [show q + 1 + (ps.length - 1 - (q + 1)) = ps.length - 1 by omega, HWH.out] at h1
            exact h1
          generalize wtTo ps q = s at *
          generalize wt ps q = v at *
          generalize ms[q + 1] = mj at *
          have b1 := mul_bd (s := s + v) x0 x1 (by omega) (by omega)
          have b2 := quo_bd (s := s + v) x0 x1 (by omega) hle (by omega)
          have q1 : (extra * (s + v)).tdiv wh = extra * (s + v) / wh := Int.tdiv_eq_ediv_of_nonneg b1.1
          have q2 : IntKind.i64.wrap (extra * (s + v)) = extra * (s + v) := IntWalk.i64_in _ (by omega)
          obtain ⟨qv, hqv⟩ : ∃ qv, extra * (s + v) / wh = qv := ⟨_, rfl⟩
          rw [hqv] at q1 b2 SA
          clear hqv
          obtain ⟨pv, hpv⟩ : ∃ pv, extra * (s + v) = pv := ⟨_, rfl⟩
          rw [hpv] at q1 q2 b1
          have q3 : IntKind.i64.wrap qv = qv := IntWalk.i64_in _ (by omega)
          have q4 : IntKind.i64.wrap (mj - qv) = mj - qv := IntWalk.i64_in _ (by omega)
          have q5 : IntKind.i64.wrap (extra * (s + v)) = pv := by rw [hpv]; exact q2
          clear hpv
          have j0 : (0 : Int) ≤ (q : Int) + 1 := by omega
          have j1 : (q : Int) + 1 < (ps.length : Int) := by omega
          have j2 : (q : Int) + 1 < (ms.length : Int) := by omega
          have j6 : ((q : Int) + 1).toNat = q + 1 := by omega
          have nz : ¬ wh = 0 := by omega
          go_wp2_with (go_at_call 49; refine (HW.out 0).mono ?_; rintro e w2 ⟨rfl, n2, rfl⟩)
          have z1 : (wr.drewN n2).cell? ⟨SZ + 1 + 1, 0, none⟩ = some (.slice (some ⟨g, 0, none⟩) ms.length cap) := z0
          have g1 : (wr.drewN n2).cell? ⟨g, q + 1, none⟩ = some (.int .i64 mj) := g0
          have gf1 : (wr.drewN n2).frozen? ⟨g, q + 1, none⟩ = false := gf
          have HG1 := Lib.hid (HG.out.drewN n2)
          have HO1 := Lib.hid (HO.out.drewN n2)
          clear z0 g0 gf HG HO HW s7
          generalize wr.drewN n2 = w4 at *
          go_still_tail 12, (by kernel_rfl)
          change wpList _ _ _ _ _ w4.drew
          go_wp2
          go_roundw
          case rel =>
            refine ⟨q + 1, by omega, by go_num, by rw [WT.out], ?_, (HO1.out.setCell (p := ⟨g, q + 1, none⟩) (.inl (by simp)) _).drew⟩
            rw [spreadTo_succ _ _ _ _ hqm, SA.out, List.map_set, ← List.set_append_left _ _ (by rw [List.length_map, spreadTo_len]; omega)]
            exact (HG1.out.set_ (q + 1) _).drew
          case measure => simp [intOf]; omega
        · have hqe : q + 1 = ms.length := by omega
          have w0 : wr.cell? ⟨SZ + 1 + 1, 1, none⟩ = some (.int .i64 t) := HR7.out.cell 1
          have w1' : wr.cell? ⟨SZ + 1 + 1, 2, none⟩ = some (.int .i64 (b - extra)) := HR7.out.cell 2
          have f0 := HR7.out.frozen 0
          have f1 := HR7.out.frozen 1
          have f2 := HR7.out.frozen 2
          have HQ := Lib.hid hqe
          clear hqe
          go_wp2
          have b9 := ((HR7.out.set_ 0 (.slice (some ⟨g, 0, none⟩) ms.length cap)).set_ 1 (.int .i64 t)).set_ 2 (.int .i64 (b - extra))
          have c0 := b9.cell 0
          have c1 := b9.cell 1
          have c2 := b9.cell 2
          simp at c0 c1 c2
          have G9 := ((HG.out.far (p := ⟨SZ + 1 + 1, 0, none⟩) hgR (.slice (some ⟨g, 0, none⟩) ms.length cap)).far (p := ⟨SZ + 1 + 1, 1, none⟩) hgR (.int .i64 t)).far (p := ⟨SZ + 1 + 1, 2, none⟩) hgR (.int .i64 (b - extra))
          have O9 := ((((X6.out.more (T := [g, SZ + 1 + 1]) (by simp)).trans (HO.out.more (T := [g, SZ + 1 + 1]) (by simp))).setCell (p := ⟨SZ + 1 + 1, 0, none⟩) (.inl (by simp)) (.slice (some ⟨g, 0, none⟩) ms.length cap)).setCell (p := ⟨SZ + 1 + 1, 1, none⟩) (.inl (by simp)) (.int .i64 t)).setCell (p := ⟨SZ + 1 + 1, 2, none⟩) (.inl (by simp)) (.int .i64 (b - extra))
          have hgw : w.heap.size ≤ g := by have h1 := HHG.out; have h2 := X1.out.size; omega
          refine bodyPost_ret (v := .tuple #[sysV (some ⟨g, 0, none⟩) ms.length cap t (b - extra), .int .i64 0]) (by simp [results, Try.results29, go_sem, c0, c1, c2]) rfl ⟨g, cap, rfl, hgw, G9.lt, fun i hi => ?_, O9.less fun p hp hlp => ?_⟩
          · rw [G9.cell, List.getElem?_append_left (by rw [List.length_map, spreadTo_len]; omega), List.getElem?_map, List.getElem?_eq_getElem (by rw [spreadTo_len]; omega), Option.map_some, spreadTo_get, if_pos (by have := HQ.out; omega)]
          · have := HSZ.out
            simp at hp
            omega
end Go.Proofs.Yticpophdoiljfaa
