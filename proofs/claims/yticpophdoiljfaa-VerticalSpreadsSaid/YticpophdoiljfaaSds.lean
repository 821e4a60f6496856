/- DERIVED. VerticalSpreads: the walk. -/
import Derived.Test.YticpophdoiljfaaSpw
namespace Go.Proofs.Yticpophdoiljfaa
open Go.RowKit
attribute [local go_sem ↓] Go.wp_at_zero Go.wp_at_succ

set_option maxRecDepth 20000 in
set_option maxHeartbeats 40000000 in
theorem spreads_any {w : World} {A : Option Addr} {X : List (List (Int × Int))} (cx : Nat) (hX : ColsAt w A X) {B : Option Addr} {P : List Int} (cp : Nat) (hP : BytesAt w B P) (x : Int) (hx : 0 ≤ x ∧ x ≤ 65535) :
    Calls Try.prog 10 #[.slice A X.length cx, .slice B P.length cp, .int .u16 x] w fun e w' => e = .returned (.bool true) ∧ Only [] w w' := by
  have XF := hX.few
  have PF := hP.few
  have HX := Lib.hid hX
  have HP := Lib.hid hP
  clear hX hP
  have wa : IntKind.i64.wrap x = x := IntWalk.i64_in _ (by omega)
  by_cases hz : 0 < X.length
  · have HZ := Lib.hid hz
    go_enter Try.func10, Try.ntmps10
    go_wp2_with (first
      | (go_at_call 12; refine (known_any _).mono ?_; rintro e w2 ⟨rfl, o2⟩; have tk := True.intro)
      | (go_at_call 16; refine (staves_any A X cx B P cp HX.out HP.out).mono ?_; rintro e w1 ⟨v, l, rfl, hc⟩; obtain ⟨k, cap, rfl, hk, hst, hL⟩ := stv_of_coll hc HZ.out HX.out.rng HP.out.rng; have HST := Lib.hid hst; have l0 : ((l.length : Int) == 0) = false := (by rw [beq_eq_false_iff_ne]; have := hst.pos; omega)))
    have X2 := Lib.hid (hc.only.trans o2)
    have HS2 := Lib.hid (HST.out.newer o2 (by simp))
    clear hc o2 hk hst hL HX HP HST tk
    obtain ⟨T, hT⟩ : ∃ T, topTo (l.map StaffR.v) 64 300 (l.map StaffR.v).length = T := ⟨_, rfl⟩
    obtain ⟨U, hU⟩ : ∃ U, botTo (l.map StaffR.v) 64 300 (l.map StaffR.v).length = U := ⟨_, rfl⟩
    have HPR : Hid (Proper (mids (l.map StaffR.v) 64 300) T U) := Lib.hid (by rw [← hT, ← hU]; exact stack_proper HS2.out (by omega) (by omega) (by omega) (by omega))
    have HUB : Hid (-700000 ≤ U ∧ U ≤ 0) := Lib.hid (by rw [← hU]; exact stack_bot HS2.out (by omega) (by omega) (by omega) (by omega))
    have HT := Lib.hid hT
    have HU := Lib.hid hU
    clear hT hU
    go_wp2_with (go_at_call 17; refine (Stack_ok cap (HS2.out.newer (Only.refl [] w2) (by simp)) 64 300 (by omega) (by omega) (by omega) (by omega)).mono ?_; rintro e w3 ⟨g, cg, rfl, hg, hgw, hm, o3⟩; rw [HT.out, HU.out, List.length_map]; have B3 := Lib.hid (Blk.new w3 24 [.slice (some ⟨g, 0, none⟩) l.length cg, .int .i64 T, .int .i64 U]); have OW := Lib.hid (X2.out.trans o3); have OB := Lib.hid ((Only.refl [] w3).alloc (.cells #[.slice (some ⟨g, 0, none⟩) l.length cg, .int .i64 T, .int .i64 U] 24)); have HSW := Lib.hid (HS2.out.newer (o3.alloc (.cells #[.slice (some ⟨g, 0, none⟩) l.length cg, .int .i64 T, .int .i64 U] 24)) (by simp)); have HM := Lib.hid (show IntsAt (w3.alloc (.cells #[.slice (some ⟨g, 0, none⟩) l.length cg, .int .i64 T, .int .i64 U] 24)) (some ⟨g, 0, none⟩) (mids (l.map StaffR.v) 64 300) from fun i hi => ⟨g, 0, rfl, (by simp; omega), by rw [Nat.zero_add, World.cell?_alloc_lt _ _ ⟨g, i, none⟩ hgw, hm i (by rw [← mids_len]; exact hi), ← mids_get _ _ _ _ (by rw [← mids_len]; exact hi), getD_get hi]⟩))
    clear hg hm hgw o3
    generalize w3.alloc (.cells #[.slice (some ⟨g, 0, none⟩) l.length cg, .int .i64 T, .int .i64 U] 24) = W3 at *
    generalize w3.heap.size = B3i at *
    have ML := Lib.hid (show (mids (l.map StaffR.v) 64 300).length = l.length by rw [mids_len, List.length_map])
    have SPR := Lib.hid (fun (W : World) (h : Only [] W3 W) (A4 : Option Addr) (c4 : Nat) (hI : IntsAt W A4 (partsOf l)) (z : Int) (z0 : 0 ≤ z) (z1 : z ≤ 65535) => show Calls Try.prog 29 #[sysV (some ⟨g, 0, none⟩) l.length cg T U, .slice A4 (partsOf l).length c4, .int .i64 z] W fun e w' => Spreaded W (mids (l.map StaffR.v) 64 300) (partsOf l) T U z e w' by
      have := spread_ok cg c4 T U z (HM.out.only h (by simp)) (by rw [ML.out]; exact Nat.le_trans HSW.out.few (by omega)) hI HPR.out (by rw [partsOf_len, ML.out]) (parts_sorted HSW.out) z0 (by omega)
      rw [ML.out] at this
      exact this)
    have KEEP := Lib.hid (fun (W : World) (h : Only [] W3 W) => show W.cell? ⟨B3i, 0, none⟩ = some (.slice (some ⟨g, 0, none⟩) l.length cg) ∧ W.cell? ⟨B3i, 1, none⟩ = some (.int .i64 T) ∧ W.cell? ⟨B3i, 2, none⟩ = some (.int .i64 U) from ⟨(B3.out.only h (by simp)).cell 0, (B3.out.only h (by simp)).cell 1, (B3.out.only h (by simp)).cell 2⟩)
    have lB3 := B3.out.lt
    obtain ⟨y0, y1, y2⟩ := KEEP.out W3 (Only.refl [] W3)
    have lB5 := lB3
    go_region_held3 (fun W => W.cell? ⟨B3i, 0, none⟩ = some (.slice (some ⟨g, 0, none⟩) l.length cg) ∧ W.cell? ⟨B3i, 1, none⟩ = some (.int .i64 T) ∧ W.cell? ⟨B3i, 2, none⟩ = some (.int .i64 U)) (first | exact ⟨y0, y1, y2⟩ | exact KEEP.out _ ((Only.refl [] W3).trans p5) | exact KEEP.out _ (((Only.refl [] W3).trans p5).alloc _) | exact KEEP.out _ ((Only.refl [] W3).trans p4) | exact KEEP.out _ (((Only.refl [] W3).trans p4).alloc _) | exact KEEP.out _ ((Only.refl [] W3).drew.alloc _) | exact ⟨(((BK5.out.far (Nat.ne_of_lt (Nat.lt_of_lt_of_le lB5 (by first | exact Nat.le_refl _ | exact p4.size))) _).far (Nat.ne_of_lt (Nat.lt_of_lt_of_le lB5 (by first | exact Nat.le_refl _ | exact p4.size))) _).far (Nat.ne_of_lt (Nat.lt_of_lt_of_le lB5 (by first | exact Nat.le_refl _ | exact p4.size))) _).cell 0, (((BK5.out.far (Nat.ne_of_lt (Nat.lt_of_lt_of_le lB5 (by first | exact Nat.le_refl _ | exact p4.size))) _).far (Nat.ne_of_lt (Nat.lt_of_lt_of_le lB5 (by first | exact Nat.le_refl _ | exact p4.size))) _).far (Nat.ne_of_lt (Nat.lt_of_lt_of_le lB5 (by first | exact Nat.le_refl _ | exact p4.size))) _).cell 1, (((BK5.out.far (Nat.ne_of_lt (Nat.lt_of_lt_of_le lB5 (by first | exact Nat.le_refl _ | exact p4.size))) _).far (Nat.ne_of_lt (Nat.lt_of_lt_of_le lB5 (by first | exact Nat.le_refl _ | exact p4.size))) _).far (Nat.ne_of_lt (Nat.lt_of_lt_of_le lB5 (by first | exact Nat.le_refl _ | exact p4.size))) _).cell 2⟩) (first
      | (have _t := hI4; go_at_call 29; refine (SPR.out _ (by first | exact (Only.refl [] W3).trans p4 | exact ((Only.refl [] W3).trans p4).alloc _) A4 c4 (hI4.only (by first | exact Only.refl [] _ | exact (Only.refl [] _).alloc _) (by simp)) x (by omega) (by omega)).mono ?_; rintro e w5 ⟨g5, c5, rfl, hg5, hw5, hm5, o5⟩; rw [ML.out]; have p5 : Only [] W3 w5 := (by first | exact p4.trans o5 | exact (p4.alloc _).trans o5); have BK5 := Lib.hid (B3.out.only ((Only.refl [] W3).trans p5) (by simp)); (try (have zB : Blk w5 W3.heap.size 24 [.slice none 0 0, .int .i64 0, .int .i64 0] := (Blk.new W3.drew 24 [.slice none 0 0, .int .i64 0, .int .i64 0]).only ((show Only [] (W3.drew.alloc (.cells #[.slice none 0 0, .int .i64 0, .int .i64 0] 24)) w4 from o4).trans o5) (by simp); have z0 := zB.cell 0; have z1 := zB.cell 1; have z2 := zB.cell 2; have zf0 := zB.frozen 0; have zf1 := zB.frozen 1; have zf2 := zB.frozen 2; simp at z0 z1 z2)); (try (have zB : Blk w5 w4.heap.size 24 [.slice none 0 0, .int .i64 0, .int .i64 0] := (Blk.new w4 24 [.slice none 0 0, .int .i64 0, .int .i64 0]).only (show Only [] (w4.alloc (.cells #[.slice none 0 0, .int .i64 0, .int .i64 0] 24)) w5 from o5) (by simp); have z0 := zB.cell 0; have z1 := zB.cell 1; have z2 := zB.cell 2; have zf0 := zB.frozen 0; have zf1 := zB.frozen 1; have zf2 := zB.frozen 2; simp at z0 z1 z2)))
      | (go_at_call 30; refine (numbers_any cap (HSW.out.newer (by first | exact (Only.refl [] W3).drew | exact ((Only.refl [] W3).drew).alloc _) (by simp))).mono ?_; rintro e w4 ⟨A4, c4, rfl, hI4, o4⟩; have p4 : Only [] W3 w4 := (by first | exact ((Only.refl [] W3).drew).trans o4 | exact (((Only.refl [] W3).drew).alloc _).trans o4)))
    all_goals
      (first
        | (have hh : Blk w5 W3.heap.size 24 [.slice none 0 0, .int .i64 0, .int .i64 0] := zB; obtain ⟨Bb5, Oo5, Mm5⟩ := way_set2 (s := (.slice (some ⟨g5, 0, none⟩) l.length c5)) (t := .int .i64 T) (u := (.int .i64 (U - x))) zB p5 (Nat.le_refl _) (by have h1 := (show Only [] (W3.drew.alloc (.cells #[.slice none 0 0, .int .i64 0, .int .i64 0] 24)) w4 from o4).size; have h2 : w4.heap.size ≤ g5 := hg5; simp at h1; omega) hm5; clear zB hh z0 z1 z2 zf0 zf1 zf2; have lB7 := Nat.lt_of_lt_of_le lB3 Oo5.size; generalize (((w5.setCell ⟨W3.heap.size, 0, none⟩ (.slice (some ⟨g5, 0, none⟩) l.length c5)).setCell ⟨W3.heap.size, 1, none⟩ (.int .i64 T)).setCell ⟨W3.heap.size, 2, none⟩ (.int .i64 (U - x))) = WW5 at *; generalize W3.heap.size = BX5 at *)
        | (have hh : Blk w5 w4.heap.size 24 [.slice none 0 0, .int .i64 0, .int .i64 0] := zB; obtain ⟨Bb5, Oo5, Mm5⟩ := way_set2 (s := (.slice (some ⟨g5, 0, none⟩) l.length c5)) (t := .int .i64 T) (u := (.int .i64 (U - x))) zB p5 p4.size (by have h2 : (w4.alloc (.cells #[.slice none 0 0, .int .i64 0, .int .i64 0] 24)).heap.size ≤ g5 := hg5; simp at h2; omega) hm5; clear zB hh z0 z1 z2 zf0 zf1 zf2; have lB7 := Nat.lt_of_lt_of_le lB3 Oo5.size; generalize (((w5.setCell ⟨w4.heap.size, 0, none⟩ (.slice (some ⟨g5, 0, none⟩) l.length c5)).setCell ⟨w4.heap.size, 1, none⟩ (.int .i64 T)).setCell ⟨w4.heap.size, 2, none⟩ (.int .i64 (U - x))) = WW5 at *; generalize w4.heap.size = BX5 at *)
        | (obtain ⟨Bb5, Oo5, Mm5⟩ := way_new2 (s := (.slice (some ⟨g5, 0, none⟩) l.length c5)) (t := .int .i64 T) (u := (.int .i64 (U - x))) p5 hm5; have lB7 := Nat.lt_of_lt_of_le lB3 Oo5.size; generalize w5.alloc (.cells #[(.slice (some ⟨g5, 0, none⟩) l.length c5), .int .i64 T, (.int .i64 (U - x))] 24) = WW5 at *; generalize w5.heap.size = BX5 at *))
      clear y0 y1 y2 p4 p5 o4 o5 hI4 hg5 hw5 hm5 BK5
      have KEEP2 := Lib.hid (fun (W : World) (h : Only [] WW5 W) => show W.cell? ⟨B3i, 0, none⟩ = some (.slice (some ⟨g, 0, none⟩) l.length cg) ∧ W.cell? ⟨B3i, 1, none⟩ = some (.int .i64 T) ∧ W.cell? ⟨B3i, 2, none⟩ = some (.int .i64 U) ∧ W.cell? ⟨BX5, 0, none⟩ = some (.slice (some ⟨g5, 0, none⟩) l.length c5) ∧ W.cell? ⟨BX5, 1, none⟩ = some (.int .i64 T) ∧ W.cell? ⟨BX5, 2, none⟩ = some (.int .i64 (U - x)) from ⟨(KEEP.out W (Oo5.trans h)).1, (KEEP.out W (Oo5.trans h)).2.1, (KEEP.out W (Oo5.trans h)).2.2, (Bb5.only h (by simp)).cell 0, (Bb5.only h (by simp)).cell 1, (Bb5.only h (by simp)).cell 2⟩)
      have I5 := Lib.hid (show IntsAt WW5 (some ⟨g5, 0, none⟩) (sprL (mids (l.map StaffR.v) 64 300) (partsOf l) x) from fun i hi => ⟨g5, 0, rfl, World.block_lt_of_cell? WW5 ⟨g5, i, none⟩ (Mm5 i (by rw [sprL_len] at hi; exact hi)), by rw [Nat.zero_add, sprL_at]; exact Mm5 i (by rw [sprL_len] at hi; exact hi)⟩)
      have N5 := Lib.hid Mm5
      have XW := Lib.hid ((OW.out.trans OB.out).trans Oo5)
      have nn : ((l.length : Int) != (l.length : Int)) = false := by simp
      have HS5 := Lib.hid (HSW.out.newer Oo5 (by simp))
      have HM5 := Lib.hid (HM.out.only Oo5 (by simp))
      have lf := HSW.out.few
      have lp := HSW.out.pos
      have SLN := Lib.hid (show (sprL (mids (l.map StaffR.v) 64 300) (partsOf l) x).length = l.length by rw [sprL_len, ML.out])
      have MSP := Lib.hid (fun (W : World) (h : Only [] WW5 W) (A4 : Option Addr) (c4 : Nat) (hI : IntsAt W A4 (partsOf l)) => show Calls Try.prog 32 #[sysV (some ⟨g, 0, none⟩) l.length cg T U, .slice A4 (partsOf l).length c4, .int .i64 x] W fun e w' => ∃ g6 c6, e = .returned (sysV (some ⟨g6, 0, none⟩) l.length c6 T (U - x)) ∧ IntsAt w' (some ⟨g6, 0, none⟩) (sprL (mids (l.map StaffR.v) 64 300) (partsOf l) x) ∧ Only [] W w' by
        have := mspread_any cg c4 T U x (HM5.out.only h (by simp)) (by rw [ML.out]; exact Nat.le_trans HSW.out.few (by omega)) hI HPR.out (by rw [partsOf_len, ML.out]) hx.1 hx.2
        rw [ML.out] at this
        refine this.mono ?_
        rintro e w' ⟨g6, c6, rfl, h1, h2, h3, h4⟩
        exact ⟨g6, c6, by rw [ML.out], fun i hi => ⟨g6, 0, rfl, h2, by rw [Nat.zero_add, sprL_at]; exact h3 i (by rw [sprL_len] at hi; exact hi)⟩, h4⟩)
      have SAM := Lib.hid (fun (W : World) (h : Only [] WW5 W) (g6 c6 : Nat) (hI : IntsAt W (some ⟨g6, 0, none⟩) (sprL (mids (l.map StaffR.v) 64 300) (partsOf l) x)) => show Calls Try.prog 22 #[sysV (some ⟨g5, 0, none⟩) l.length c5 T (U - x), sysV (some ⟨g6, 0, none⟩) l.length c6 T (U - x)] W fun e w' => e = .returned (.bool true) ∧ Only [] W w' by
        have := same_any c5 c6 T T (U - x) (U - x) (I5.out.only h (by simp)) hI (by rw [SLN.out]; omega)
        rw [SLN.out] at this
        refine this.mono ?_
        rintro e w' ⟨rfl, h1⟩
        exact ⟨ret_bool (by simp [sameB]), h1⟩)
      have CLR := Lib.hid (fun (W : World) (h : Only [] WW5 W) => show Calls Try.prog 18 #[.slice (some ⟨k, 0, none⟩) l.length cap, sysV (some ⟨g5, 0, none⟩) l.length c5 T (U - x), .int .i64 64] W fun e w' => e = .returned (.bool true) ∧ Only [] W w' by
        have := Clear_any cap (HS5.out.newer h (by simp)) c5 T (U - x) 64 (I5.out.only h (by simp)) (by rw [SLN.out]; omega)
        rw [SLN.out, spread_clr HSW.out HPR.out HUB.out.1 hx.1 hx.2] at this
        exact this)
      have y3 := KEEP2.out WW5 (Only.refl [] WW5)
      have hub := HUB.out
      have htr := HPR.out.top
      have hbr := HPR.out.bot
      clear Oo5 Mm5 Bb5 KEEP SPR
      go_wp2
      go_region_held3 (fun W => W.cell? ⟨B3i, 0, none⟩ = some (.slice (some ⟨g, 0, none⟩) l.length cg) ∧ W.cell? ⟨B3i, 1, none⟩ = some (.int .i64 T) ∧ W.cell? ⟨B3i, 2, none⟩ = some (.int .i64 U) ∧ W.cell? ⟨BX5, 0, none⟩ = some (.slice (some ⟨g5, 0, none⟩) l.length c5) ∧ W.cell? ⟨BX5, 1, none⟩ = some (.int .i64 T) ∧ W.cell? ⟨BX5, 2, none⟩ = some (.int .i64 (U - x))) (first | exact KEEP2.out _ (Only.refl [] WW5) | exact KEEP2.out _ (Only.refl [] WW5).drew | exact KEEP2.out _ p4 | exact KEEP2.out _ p6 | exact KEEP2.out _ p7) (first
        | (go_at_call 22; refine (SAM.out _ p6 g6 c6 hI6).mono ?_; rintro e w7 ⟨rfl, o7⟩; have p7 := p6.trans o7)
        | (go_at_call 32; refine (MSP.out _ p4 A4 c4 hI4).mono ?_; rintro e w6 ⟨g6, c6, rfl, hI6, o6⟩; have p6 := p4.trans o6)
        | (go_at_call 30; refine (numbers_any cap (HS5.out.newer (Only.refl [] WW5).drew (by simp))).mono ?_; rintro e w4 ⟨A4, c4, rfl, hI4, o4⟩; have p4 : Only [] WW5 w4 := ((Only.refl [] WW5).drew).trans o4))
      all_goals
        have N0 := Lib.hid (show ∀ i (hi : i < (mids (l.map StaffR.v) 64 300).length), w7.cell? ⟨g, i, none⟩ = some (.int .i64 (mids (l.map StaffR.v) 64 300)[i]) from fun i hi => (HM5.out.only p7 (by simp)).at0 i hi)
        have N1 := Lib.hid (show ∀ i (hi : i < (mids (l.map StaffR.v) 64 300).length), w7.cell? ⟨g5, i, none⟩ = some (.int .i64 (spreadAt (mids (l.map StaffR.v) 64 300) (partsOf l) x i)) from fun i hi => by
          have := (I5.out.only p7 (by simp)).at0 i (by rw [sprL_len]; exact hi)
          rwa [sprL_at] at this)
        have K7 := KEEP2.out w7 p7
        have s0 := K7.1
        have s5 := K7.2.2.2.1
        have P7 := Lib.hid p7
        clear K7 y3 p4 p6 p7 o4 o6 o7 hI4 hI6
        go_wp2
        go_loopw [12] (fun i wr => ∃ j q : Nat, 1 ≤ j ∧ j ≤ l.length ∧ i = .int .i64 j ∧ wr = w7.drewN q) (fun i _ => l.length - (intOf i).toNat)
        case atStart => exact ⟨1, 0, Nat.le_refl _, lp, rfl, rfl⟩
        case round =>
          obtain ⟨j, n, hj1, hj, rfl, rfl⟩ := hrel
          by_cases hlt : j < l.length
          · obtain ⟨q, rfl⟩ : ∃ q, j = q + 1 := ⟨j - 1, by omega⟩
            have mlen := ML.out
            have plen := partsOf_len l
            have t0 := N0.out q (by omega)
            have t1 := N0.out (q + 1) (by omega)
            have u0 := N1.out q (by omega)
            have u1 := N1.out (q + 1) (by omega)
            have law := spread_step (mids (l.map StaffR.v) 64 300) (partsOf l) (x := x) (q := q) (by omega) (by omega)
            have m0 := HPR.out.rng q (by omega)
            have m1 := HPR.out.rng (q + 1) (by omega)
            have d0 := getD_get (show q < (mids (l.map StaffR.v) 64 300).length by omega)
            have d1 := getD_get (show q + 1 < (mids (l.map StaffR.v) 64 300).length by omega)
            have v2 := spread_low (ms := (mids (l.map StaffR.v) 64 300)) (ps := partsOf l) (x := x) (i := q) (by omega) (by omega) (by omega)
            have v3 := spread_low (ms := (mids (l.map StaffR.v) 64 300)) (ps := partsOf l) (x := x) (i := q + 1) (by omega) (by omega) (by omega)
            rw [d0] at v2 law
            rw [d1] at v3 law
            generalize spreadAt (mids (l.map StaffR.v) 64 300) (partsOf l) x q = x2 at *
            generalize spreadAt (mids (l.map StaffR.v) 64 300) (partsOf l) x (q + 1) = x3 at *
            generalize (mids (l.map StaffR.v) 64 300)[q] = x0 at *
            generalize (mids (l.map StaffR.v) 64 300)[q + 1] = x1 at *
            have f1 : IntKind.i64.wrap (x2 - x3) = x2 - x3 := IntWalk.i64_in _ (by omega)
            have f2 : IntKind.i64.wrap (x0 - x1) = x0 - x1 := IntWalk.i64_in _ (by omega)
            have hno : ¬ x2 - x3 < x0 - x1 := by omega
            clear d0 d1 mlen plen m0 m1 v2 v3 law
            have j0 : (0 : Int) ≤ ((q + 1 : Nat) : Int) := by omega
            have j1 : ((q + 1 : Nat) : Int) < (l.length : Int) := by omega
            have j2 : (((q + 1 : Nat) : Int) - 1) = (q : Int) := by omega
            have j3 : IntKind.i64.wrap ((q : Int)) = (q : Int) := IntWalk.i64_in _ (by omega)
            have j4 : (0 : Int) ≤ (q : Int) := by omega
            have j5 : (q : Int) < (l.length : Int) := by omega
            go_wp2
            go_quiet (fail)
            go_wp2
            go_roundw
            case rel => exact ⟨q + 1 + 1, _, by omega, by omega, by go_num, rfl⟩
            case measure => simp [intOf]; omega
          · obtain rfl : j = l.length := by omega
            have P8 := P7.out.drewN n
            generalize w7.drewN n = W8 at *
            have e1 : IntKind.i64.wrap (T - U) = T - U := IntWalk.i64_in _ (by omega)
            have e2 : IntKind.i64.wrap (T - (U - x)) = T - U + x := by
              rw [show T - (U - x) = T - U + x by omega]
              exact IntWalk.i64_in _ (by omega)
            have e3 : IntKind.i64.wrap (T - U + x) = T - U + x := IntWalk.i64_in _ (by omega)
            have y3 := KEEP2.out W8 P8
            clear s0 s5
            go_wp2
            go_region_held3 (fun W => W.cell? ⟨B3i, 0, none⟩ = some (.slice (some ⟨g, 0, none⟩) l.length cg) ∧ W.cell? ⟨B3i, 1, none⟩ = some (.int .i64 T) ∧ W.cell? ⟨B3i, 2, none⟩ = some (.int .i64 U) ∧ W.cell? ⟨BX5, 0, none⟩ = some (.slice (some ⟨g5, 0, none⟩) l.length c5) ∧ W.cell? ⟨BX5, 1, none⟩ = some (.int .i64 T) ∧ W.cell? ⟨BX5, 2, none⟩ = some (.int .i64 (U - x))) (first | exact KEEP2.out _ P8 | exact KEEP2.out _ P8.drew | exact KEEP2.out _ p9 | exact KEEP2.out _ p10 | exact KEEP2.out _ p11) (first
              | (have _t := p10; go_at_call 26; refine (Height_any (some ⟨g, 0, none⟩) l.length cg T U (T - U) _ e1).mono ?_; rintro e w11 ⟨rfl, o11⟩; have p11 := p10.trans o11)
              | (have _t := p9; go_at_call 26; refine (Height_any (some ⟨g5, 0, none⟩) l.length c5 T (U - x) (T - U + x) _ e2).mono ?_; rintro e w10 ⟨rfl, o10⟩; have p10 := p9.trans o10)
              | (go_at_call 18; refine (CLR.out _ P8.drew).mono ?_; rintro e w9 ⟨rfl, o9⟩; have p9 : Only [] WW5 w9 := P8.drew.trans o9))
            all_goals
              go_wp2
              go_ret
              exact ⟨(by first | rfl | exact ret_bool (by simp)), XW.out.trans p11⟩
  · have hx0 : min X.length 6 = 0 := by omega
    have HX0 := Lib.hid hx0
    clear hx0
    go_enter Try.func10, Try.ntmps10
    go_wp2_with (first
      | (have _t := tk; go_at_call 12; refine (known_any _).mono ?_; rintro e w3 ⟨rfl, o3⟩)
      | (go_at_call 16; refine (staves_any A X cx B P cp HX.out HP.out).mono ?_; rintro e w1 ⟨v, l, rfl, hc⟩; obtain ⟨A1, c1, rfl⟩ := own_slice hc.own; rw [HX0.out])
      | (go_at_call 12; refine (known_any _).mono ?_; rintro e w2 ⟨rfl, o2⟩; have tk := True.intro))
    go_ret
    exact ⟨rfl, (hc.only.trans o2).trans o3⟩
end Go.Proofs.Yticpophdoiljfaa
