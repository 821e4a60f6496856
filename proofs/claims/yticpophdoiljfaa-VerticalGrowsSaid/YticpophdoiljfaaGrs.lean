/- DERIVED. VerticalGrows: the walk. -/
import Derived.Test.YticpophdoiljfaaGrw
import Derived.Test.YticpophdoiljfaaCls
namespace Go.Proofs.Yticpophdoiljfaa
open Go.RowKit
attribute [local go_sem ↓] Go.wp_at_zero Go.wp_at_succ

theorem way_set {W3 w5 : World} {B12 g5 n : Nat} {s t u s0 t0 u0 : Value} {f : Nat → Value} (zB : Blk w5 B12 24 [s0, t0, u0]) (p5 : Only [] W3 w5) (hB : W3.heap.size ≤ B12) (hg : g5 ≠ B12) (hm : ∀ i, i < n → w5.cell? ⟨g5, i, none⟩ = some (f i)) :
    Blk (((w5.setCell ⟨B12, 0, none⟩ s).setCell ⟨B12, 1, none⟩ t).setCell ⟨B12, 2, none⟩ u) B12 24 [s, t, u] ∧ Only [] W3 (((w5.setCell ⟨B12, 0, none⟩ s).setCell ⟨B12, 1, none⟩ t).setCell ⟨B12, 2, none⟩ u) ∧
    (∀ i, i < n → (((w5.setCell ⟨B12, 0, none⟩ s).setCell ⟨B12, 1, none⟩ t).setCell ⟨B12, 2, none⟩ u).cell? ⟨g5, i, none⟩ = some (f i)) := by
  have o : Only [B12] w5 (((w5.setCell ⟨B12, 0, none⟩ s).setCell ⟨B12, 1, none⟩ t).setCell ⟨B12, 2, none⟩ u) := (((Only.refl [B12] w5).setCell (p := ⟨B12, 0, none⟩) (.inl (by simp)) s).setCell (p := ⟨B12, 1, none⟩) (.inl (by simp)) t).setCell (p := ⟨B12, 2, none⟩) (.inl (by simp)) u
  refine ⟨((zB.set_ 0 s).set_ 1 t).set_ 2 u, ((p5.more (T := [B12]) (by simp)).trans o).less fun q hq hl => ?_, fun i hi => ?_⟩
  · simp at hq
    omega
  · have h1 := hm i hi
    exact (o.cell (p := ⟨g5, i, none⟩) (World.block_lt_of_cell? w5 ⟨g5, i, none⟩ h1) (by simpa using hg)).trans h1
theorem way_new {W3 w5 : World} {g5 n : Nat} {s t u : Value} {f : Nat → Value} (p5 : Only [] W3 w5) (hm : ∀ i, i < n → w5.cell? ⟨g5, i, none⟩ = some (f i)) :
    Blk (w5.alloc (.cells #[s, t, u] 24)) w5.heap.size 24 [s, t, u] ∧ Only [] W3 (w5.alloc (.cells #[s, t, u] 24)) ∧
    (∀ i, i < n → (w5.alloc (.cells #[s, t, u] 24)).cell? ⟨g5, i, none⟩ = some (f i)) :=
  ⟨Blk.new w5 _ _, p5.alloc _, fun i hi => (World.cell?_alloc_lt w5 _ ⟨g5, i, none⟩ (World.block_lt_of_cell? w5 ⟨g5, i, none⟩ (hm i hi))).trans (hm i hi)⟩
theorem spreadAt_rng {ms ps : List Int} {x : Int} {i : Nat} (hx : 0 ≤ x) (hx1 : x ≤ 65535) (hi : i < ps.length) (h2 : 2 ≤ ps.length) : ms.getD i 0 - 65535 ≤ spreadAt ms ps x i ∧ spreadAt ms ps x i ≤ ms.getD i 0 := by
  have h0 := wtTo_rng ps i
  have h1 := wtTo_le ps (ps.length - 1 - i) i
  rw [show i + (ps.length - 1 - i) = ps.length - 1 by omega] at h1
  have h3 := wtTo_rng ps (ps.length - 1)
  have := quo_bd hx (by omega : x ≤ 16777216) (by omega) h1 (by omega)
  unfold spreadAt
  omega
/-- The plain law: no distance is less by more than 1 with the greater height. -/
theorem grows_law (ms ps : List Int) {a b : Int} {q : Nat} (ha : 0 ≤ a) (hab : a ≤ b) (hq : q + 1 < ps.length) :
    spreadAt ms ps a q - spreadAt ms ps a (q + 1) - 1 ≤ spreadAt ms ps b q - spreadAt ms ps b (q + 1) := by
  have hw : 0 < wtTo ps (ps.length - 1) := by have := wtTo_rng ps (ps.length - 1); omega
  have h1 := spread_diff ms ps a q ha hw
  have h2 := spread_diff ms ps b q (by omega) hw
  have h3 := spread_mono ps q hab hw
  omega

set_option maxRecDepth 20000 in
set_option maxHeartbeats 40000000 in
theorem grows_any {w : World} {A : Option Addr} {X : List (List (Int × Int))} (cx : Nat) (hX : ColsAt w A X) {B : Option Addr} {P : List Int} (cp : Nat) (hP : BytesAt w B P) (x y : Int) (hx : 0 ≤ x ∧ x ≤ 65535) (hy : 0 ≤ y ∧ y ≤ 65535) :
    Calls Try.prog 8 #[.slice A X.length cx, .slice B P.length cp, .agg #[.int .u16 x, .int .u16 y]] w fun e w' => e = .returned (.bool true) ∧ Only [] w w' := by
  have XF := hX.few
  have PF := hP.few
  have XO := Lib.hid ((Only.refl [] w).alloc (.cells #[.int .u16 x, .int .u16 y] 61))
  have HB := Lib.hid (Blk.new w 61 [.int .u16 x, .int .u16 y])
  have HX := Lib.hid (hX.only XO.out (by simp))
  have HP := Lib.hid (hP.only XO.out (by simp))
  clear hX hP
  by_cases hz : 0 < X.length
  · have HZ := Lib.hid hz
    obtain ⟨a, ha⟩ : ∃ a, (if y < x then y else x) = a := ⟨_, rfl⟩
    obtain ⟨b, hb⟩ : ∃ b, (if x < y then y else x) = b := ⟨_, rfl⟩
    have hab : 0 ≤ a ∧ a ≤ b ∧ b ≤ 65535 := by split at ha <;> split at hb <;> omega
    have wa : IntKind.i64.wrap a = a := IntWalk.i64_in _ (by omega)
    have wb : IntKind.i64.wrap b = b := IntWalk.i64_in _ (by omega)
    go_enter Try.func8, Try.ntmps8
    go_wp2_with (first
      | (go_at_call 12; refine (known_any _).mono ?_; rintro e w2 ⟨rfl, o2⟩; have b2 := b1.only o2 (by simp); have b20 := b2.cell 0; have b21 := b2.cell 1; simp at b20 b21)
      | (go_at_call 16; refine (staves_any A X cx B P cp HX.out HP.out).mono ?_; rintro e w1 ⟨v, l, rfl, hc⟩; have b1 := HB.out.only hc.only (by simp); obtain ⟨k, cap, rfl, hk, hst, hL⟩ := stv_of_coll hc HZ.out HX.out.rng HP.out.rng; have HST := Lib.hid hst; have l0 : ((l.length : Int) == 0) = false := (by rw [beq_eq_false_iff_ne]; have := hst.pos; omega)))
    have X2 := Lib.hid ((XO.out.trans hc.only).trans o2)
    have HS2 := Lib.hid (HST.out.newer o2 (by simp))
    clear b1 b2 hc o2 hk hst hL HB HX HP HST
    go_quiet (fail)
    obtain ⟨T, hT⟩ : ∃ T, topTo (l.map StaffR.v) 64 300 (l.map StaffR.v).length = T := ⟨_, rfl⟩
    obtain ⟨U, hU⟩ : ∃ U, botTo (l.map StaffR.v) 64 300 (l.map StaffR.v).length = U := ⟨_, rfl⟩
    have HPR : Hid (Proper (mids (l.map StaffR.v) 64 300) T U) := Lib.hid (by rw [← hT, ← hU]; exact stack_proper HS2.out (by omega) (by omega) (by omega) (by omega))
    have HT := Lib.hid hT
    have HU := Lib.hid hU
    clear hT hU
    go_wp2_with (go_at_call 17; refine (Stack_ok cap (HS2.out.newer (Only.of_drewN w2 [] _) (by simp)) 64 300 (by omega) (by omega) (by omega) (by omega)).mono ?_; rintro e w3 ⟨g, cg, rfl, hg, hgw, hm, o3⟩; rw [HT.out, HU.out, List.length_map]; have B3 := Lib.hid (Blk.new w3 24 [.slice (some ⟨g, 0, none⟩) l.length cg, .int .i64 T, .int .i64 U]); have OW := Lib.hid ((X2.out.drewN _).trans o3); have OB := Lib.hid ((Only.refl [] w3).alloc (.cells #[.slice (some ⟨g, 0, none⟩) l.length cg, .int .i64 T, .int .i64 U] 24)); have HSW := Lib.hid ((HS2.out.newer (Only.of_drewN w2 [] _) (by simp)).newer (o3.alloc (.cells #[.slice (some ⟨g, 0, none⟩) l.length cg, .int .i64 T, .int .i64 U] 24)) (by simp)); have HM := Lib.hid (show IntsAt (w3.alloc (.cells #[.slice (some ⟨g, 0, none⟩) l.length cg, .int .i64 T, .int .i64 U] 24)) (some ⟨g, 0, none⟩) (mids (l.map StaffR.v) 64 300) from fun i hi => ⟨g, 0, rfl, (by simp; omega), by rw [Nat.zero_add, World.cell?_alloc_lt _ _ ⟨g, i, none⟩ hgw, hm i (by rw [← mids_len]; exact hi), ← mids_get _ _ _ _ (by rw [← mids_len]; exact hi), getD_get hi]⟩))
    clear hg hm hgw o3
    generalize w3.alloc (.cells #[.slice (some ⟨g, 0, none⟩) l.length cg, .int .i64 T, .int .i64 U] 24) = W3 at *
    generalize w3.heap.size = B3i at *
    have ML := Lib.hid (show (mids (l.map StaffR.v) 64 300).length = l.length by rw [mids_len, List.length_map])
    have SPR := Lib.hid (fun (W : World) (h : Only [] W3 W) (A4 : Option Addr) (c4 : Nat) (hI : IntsAt W A4 (partsOf l)) (z : Int) (z0 : 0 ≤ z) (z1 : z ≤ 65535) => show Calls Try.prog 29 #[sysV (some ⟨g, 0, none⟩) l.length cg T U, .slice A4 (partsOf l).length c4, .int .i64 z] W fun e w' => Spreaded W (mids (l.map StaffR.v) 64 300) (partsOf l) T U z e w' by
      have := spread_ok cg c4 T U z (HM.out.only h (by simp)) (by rw [ML.out]; exact Nat.le_trans HSW.out.few (by omega)) hI HPR.out (by rw [partsOf_len, ML.out]) (parts_sorted HSW.out) z0 (by omega)
      rw [ML.out] at this
      exact this)
    have KEEP := Lib.hid (fun (W : World) (h : Only [] W3 W) => show W.cell? ⟨B3i, 0, none⟩ = some (.slice (some ⟨g, 0, none⟩) l.length cg) ∧ W.cell? ⟨B3i, 1, none⟩ = some (.int .i64 T) ∧ W.cell? ⟨B3i, 2, none⟩ = some (.int .i64 U) from ⟨(B3.out.only h (by simp)).cell 0, (B3.out.only h (by simp)).cell 1, (B3.out.only h (by simp)).cell 2⟩)
    have lB3 := B3.out.lt
    obtain ⟨y0, y1, y2⟩ := KEEP.out W3 (Only.refl [] W3)
    have lB5 := lB3
    go_region_held3 (fun W => W.cell? ⟨B3i, 0, none⟩ = some (.slice (some ⟨g, 0, none⟩) l.length cg) ∧ W.cell? ⟨B3i, 1, none⟩ = some (.int .i64 T) ∧ W.cell? ⟨B3i, 2, none⟩ = some (.int .i64 U)) (first | exact ⟨y0, y1, y2⟩ | exact KEEP.out _ ((Only.refl [] W3).trans p5) | exact KEEP.out _ (((Only.refl [] W3).trans p5).alloc _) | exact KEEP.out _ ((Only.refl [] W3).trans p4) | exact KEEP.out _ (((Only.refl [] W3).trans p4).alloc _) | exact KEEP.out _ ((Only.refl [] W3).drew.alloc _) | exact ⟨(((BK5.out.far (Nat.ne_of_lt (Nat.lt_of_lt_of_le lB5 (by first | exact Nat.le_refl _ | exact p4.size))) _).far (Nat.ne_of_lt (Nat.lt_of_lt_of_le lB5 (by first | exact Nat.le_refl _ | exact p4.size))) _).far (Nat.ne_of_lt (Nat.lt_of_lt_of_le lB5 (by first | exact Nat.le_refl _ | exact p4.size))) _).cell 0, (((BK5.out.far (Nat.ne_of_lt (Nat.lt_of_lt_of_le lB5 (by first | exact Nat.le_refl _ | exact p4.size))) _).far (Nat.ne_of_lt (Nat.lt_of_lt_of_le lB5 (by first | exact Nat.le_refl _ | exact p4.size))) _).far (Nat.ne_of_lt (Nat.lt_of_lt_of_le lB5 (by first | exact Nat.le_refl _ | exact p4.size))) _).cell 1, (((BK5.out.far (Nat.ne_of_lt (Nat.lt_of_lt_of_le lB5 (by first | exact Nat.le_refl _ | exact p4.size))) _).far (Nat.ne_of_lt (Nat.lt_of_lt_of_le lB5 (by first | exact Nat.le_refl _ | exact p4.size))) _).far (Nat.ne_of_lt (Nat.lt_of_lt_of_le lB5 (by first | exact Nat.le_refl _ | exact p4.size))) _).cell 2⟩) (first
      | (have _t := hI4; go_at_call 29; refine (SPR.out _ (by first | exact (Only.refl [] W3).trans p4 | exact ((Only.refl [] W3).trans p4).alloc _) A4 c4 (hI4.only (by first | exact Only.refl [] _ | exact (Only.refl [] _).alloc _) (by simp)) a (by omega) (by omega)).mono ?_; rintro e w5 ⟨g5, c5, rfl, hg5, hw5, hm5, o5⟩; rw [ML.out]; have p5 : Only [] W3 w5 := (by first | exact p4.trans o5 | exact (p4.alloc _).trans o5); have BK5 := Lib.hid (B3.out.only ((Only.refl [] W3).trans p5) (by simp)); (try (have zB : Blk w5 W3.heap.size 24 [.slice none 0 0, .int .i64 0, .int .i64 0] := (Blk.new W3.drew 24 [.slice none 0 0, .int .i64 0, .int .i64 0]).only ((show Only [] (W3.drew.alloc (.cells #[.slice none 0 0, .int .i64 0, .int .i64 0] 24)) w4 from o4).trans o5) (by simp); have z0 := zB.cell 0; have z1 := zB.cell 1; have z2 := zB.cell 2; have zf0 := zB.frozen 0; have zf1 := zB.frozen 1; have zf2 := zB.frozen 2; simp at z0 z1 z2)); (try (have zB : Blk w5 w4.heap.size 24 [.slice none 0 0, .int .i64 0, .int .i64 0] := (Blk.new w4 24 [.slice none 0 0, .int .i64 0, .int .i64 0]).only (show Only [] (w4.alloc (.cells #[.slice none 0 0, .int .i64 0, .int .i64 0] 24)) w5 from o5) (by simp); have z0 := zB.cell 0; have z1 := zB.cell 1; have z2 := zB.cell 2; have zf0 := zB.frozen 0; have zf1 := zB.frozen 1; have zf2 := zB.frozen 2; simp at z0 z1 z2)))
      | (go_at_call 30; refine (numbers_any cap (HSW.out.newer (by first | exact (Only.refl [] W3).drew | exact ((Only.refl [] W3).drew).alloc _) (by simp))).mono ?_; rintro e w4 ⟨A4, c4, rfl, hI4, o4⟩; have p4 : Only [] W3 w4 := (by first | exact ((Only.refl [] W3).drew).trans o4 | exact (((Only.refl [] W3).drew).alloc _).trans o4)))
    all_goals
      (first
        | (have hh : Blk w5 W3.heap.size 24 [.slice none 0 0, .int .i64 0, .int .i64 0] := zB; obtain ⟨Bb5, Oo5, Mm5⟩ := way_set (s := (.slice (some ⟨g5, 0, none⟩) l.length c5)) (t := .int .i64 T) (u := (.int .i64 (U - a))) zB p5 (Nat.le_refl _) (by have h1 := (show Only [] (W3.drew.alloc (.cells #[.slice none 0 0, .int .i64 0, .int .i64 0] 24)) w4 from o4).size; have h2 : w4.heap.size ≤ g5 := hg5; simp at h1; omega) hm5; clear zB hh z0 z1 z2 zf0 zf1 zf2; have lB7 := Nat.lt_of_lt_of_le lB3 Oo5.size; generalize (((w5.setCell ⟨W3.heap.size, 0, none⟩ (.slice (some ⟨g5, 0, none⟩) l.length c5)).setCell ⟨W3.heap.size, 1, none⟩ (.int .i64 T)).setCell ⟨W3.heap.size, 2, none⟩ (.int .i64 (U - a))) = WW5 at *; generalize W3.heap.size = BX5 at *)
        | (have hh : Blk w5 w4.heap.size 24 [.slice none 0 0, .int .i64 0, .int .i64 0] := zB; obtain ⟨Bb5, Oo5, Mm5⟩ := way_set (s := (.slice (some ⟨g5, 0, none⟩) l.length c5)) (t := .int .i64 T) (u := (.int .i64 (U - a))) zB p5 p4.size (by have h2 : (w4.alloc (.cells #[.slice none 0 0, .int .i64 0, .int .i64 0] 24)).heap.size ≤ g5 := hg5; simp at h2; omega) hm5; clear zB hh z0 z1 z2 zf0 zf1 zf2; have lB7 := Nat.lt_of_lt_of_le lB3 Oo5.size; generalize (((w5.setCell ⟨w4.heap.size, 0, none⟩ (.slice (some ⟨g5, 0, none⟩) l.length c5)).setCell ⟨w4.heap.size, 1, none⟩ (.int .i64 T)).setCell ⟨w4.heap.size, 2, none⟩ (.int .i64 (U - a))) = WW5 at *; generalize w4.heap.size = BX5 at *)
        | (obtain ⟨Bb5, Oo5, Mm5⟩ := way_new (s := (.slice (some ⟨g5, 0, none⟩) l.length c5)) (t := .int .i64 T) (u := (.int .i64 (U - a))) p5 hm5; have lB7 := Nat.lt_of_lt_of_le lB3 Oo5.size; generalize w5.alloc (.cells #[(.slice (some ⟨g5, 0, none⟩) l.length c5), .int .i64 T, (.int .i64 (U - a))] 24) = WW5 at *; generalize w5.heap.size = BX5 at *))
      clear y0 y1 y2 p4 p5 o4 o5 hI4 hg5 hw5 hm5 BK5
      go_wp2
      obtain ⟨y0, y1, y2⟩ := KEEP.out WW5 Oo5
      go_region_held3 (fun W => W.cell? ⟨B3i, 0, none⟩ = some (.slice (some ⟨g, 0, none⟩) l.length cg) ∧ W.cell? ⟨B3i, 1, none⟩ = some (.int .i64 T) ∧ W.cell? ⟨B3i, 2, none⟩ = some (.int .i64 U)) (first | exact ⟨y0, y1, y2⟩ | exact KEEP.out _ ((Oo5).trans p5) | exact KEEP.out _ (((Oo5).trans p5).alloc _) | exact KEEP.out _ ((Oo5).trans p4) | exact KEEP.out _ (((Oo5).trans p4).alloc _) | exact KEEP.out _ ((Oo5).drew.alloc _) | exact ⟨(((BK5.out.far (Nat.ne_of_lt (Nat.lt_of_lt_of_le lB7 (by first | exact Nat.le_refl _ | exact p4.size))) _).far (Nat.ne_of_lt (Nat.lt_of_lt_of_le lB7 (by first | exact Nat.le_refl _ | exact p4.size))) _).far (Nat.ne_of_lt (Nat.lt_of_lt_of_le lB7 (by first | exact Nat.le_refl _ | exact p4.size))) _).cell 0, (((BK5.out.far (Nat.ne_of_lt (Nat.lt_of_lt_of_le lB7 (by first | exact Nat.le_refl _ | exact p4.size))) _).far (Nat.ne_of_lt (Nat.lt_of_lt_of_le lB7 (by first | exact Nat.le_refl _ | exact p4.size))) _).far (Nat.ne_of_lt (Nat.lt_of_lt_of_le lB7 (by first | exact Nat.le_refl _ | exact p4.size))) _).cell 1, (((BK5.out.far (Nat.ne_of_lt (Nat.lt_of_lt_of_le lB7 (by first | exact Nat.le_refl _ | exact p4.size))) _).far (Nat.ne_of_lt (Nat.lt_of_lt_of_le lB7 (by first | exact Nat.le_refl _ | exact p4.size))) _).far (Nat.ne_of_lt (Nat.lt_of_lt_of_le lB7 (by first | exact Nat.le_refl _ | exact p4.size))) _).cell 2⟩) (first
        | (have _t := hI4; go_at_call 29; refine (SPR.out _ (by first | exact (Oo5).trans p4 | exact ((Oo5).trans p4).alloc _) A4 c4 (hI4.only (by first | exact Only.refl [] _ | exact (Only.refl [] _).alloc _) (by simp)) b (by omega) (by omega)).mono ?_; rintro e w5 ⟨g7, c7, rfl, hg5, hw5, hm5, o5⟩; rw [ML.out]; have p5 : Only [] WW5 w5 := (by first | exact p4.trans o5 | exact (p4.alloc _).trans o5); have BK5 := Lib.hid (B3.out.only ((Oo5).trans p5) (by simp)); (try (have zB : Blk w5 WW5.heap.size 24 [.slice none 0 0, .int .i64 0, .int .i64 0] := (Blk.new WW5.drew 24 [.slice none 0 0, .int .i64 0, .int .i64 0]).only ((show Only [] (WW5.drew.alloc (.cells #[.slice none 0 0, .int .i64 0, .int .i64 0] 24)) w4 from o4).trans o5) (by simp); have z0 := zB.cell 0; have z1 := zB.cell 1; have z2 := zB.cell 2; have zf0 := zB.frozen 0; have zf1 := zB.frozen 1; have zf2 := zB.frozen 2; simp at z0 z1 z2)); (try (have zB : Blk w5 w4.heap.size 24 [.slice none 0 0, .int .i64 0, .int .i64 0] := (Blk.new w4 24 [.slice none 0 0, .int .i64 0, .int .i64 0]).only (show Only [] (w4.alloc (.cells #[.slice none 0 0, .int .i64 0, .int .i64 0] 24)) w5 from o5) (by simp); have z0 := zB.cell 0; have z1 := zB.cell 1; have z2 := zB.cell 2; have zf0 := zB.frozen 0; have zf1 := zB.frozen 1; have zf2 := zB.frozen 2; simp at z0 z1 z2)))
        | (go_at_call 30; refine (numbers_any cap (HSW.out.newer (by first | exact (Oo5).drew | exact ((Oo5).drew).alloc _) (by simp))).mono ?_; rintro e w4 ⟨A4, c4, rfl, hI4, o4⟩; have p4 : Only [] WW5 w4 := (by first | exact ((Only.refl [] WW5).drew).trans o4 | exact (((Only.refl [] WW5).drew).alloc _).trans o4)))
      all_goals
        (first
          | (have hh : Blk w5 WW5.heap.size 24 [.slice none 0 0, .int .i64 0, .int .i64 0] := zB; obtain ⟨Bb7, Oo7, Mm7⟩ := way_set (s := (.slice (some ⟨g7, 0, none⟩) l.length c7)) (t := .int .i64 T) (u := (.int .i64 (U - b))) zB p5 (Nat.le_refl _) (by have h1 := (show Only [] (WW5.drew.alloc (.cells #[.slice none 0 0, .int .i64 0, .int .i64 0] 24)) w4 from o4).size; have h2 : w4.heap.size ≤ g7 := hg5; simp at h1; omega) hm5; clear zB hh z0 z1 z2 zf0 zf1 zf2; skip; generalize (((w5.setCell ⟨WW5.heap.size, 0, none⟩ (.slice (some ⟨g7, 0, none⟩) l.length c7)).setCell ⟨WW5.heap.size, 1, none⟩ (.int .i64 T)).setCell ⟨WW5.heap.size, 2, none⟩ (.int .i64 (U - b))) = WW7 at *; generalize WW5.heap.size = BX7 at *)
          | (have hh : Blk w5 w4.heap.size 24 [.slice none 0 0, .int .i64 0, .int .i64 0] := zB; obtain ⟨Bb7, Oo7, Mm7⟩ := way_set (s := (.slice (some ⟨g7, 0, none⟩) l.length c7)) (t := .int .i64 T) (u := (.int .i64 (U - b))) zB p5 p4.size (by have h2 : (w4.alloc (.cells #[.slice none 0 0, .int .i64 0, .int .i64 0] 24)).heap.size ≤ g7 := hg5; simp at h2; omega) hm5; clear zB hh z0 z1 z2 zf0 zf1 zf2; skip; generalize (((w5.setCell ⟨w4.heap.size, 0, none⟩ (.slice (some ⟨g7, 0, none⟩) l.length c7)).setCell ⟨w4.heap.size, 1, none⟩ (.int .i64 T)).setCell ⟨w4.heap.size, 2, none⟩ (.int .i64 (U - b))) = WW7 at *; generalize w4.heap.size = BX7 at *)
          | (obtain ⟨Bb7, Oo7, Mm7⟩ := way_new (s := (.slice (some ⟨g7, 0, none⟩) l.length c7)) (t := .int .i64 T) (u := (.int .i64 (U - b))) p5 hm5; skip; generalize w5.alloc (.cells #[(.slice (some ⟨g7, 0, none⟩) l.length c7), .int .i64 T, (.int .i64 (U - b))] 24) = WW7 at *; generalize w5.heap.size = BX7 at *))
        clear y0 y1 y2 p4 p5 o4 o5 hI4 hg5 hw5 hm5 BK5
        have Q5 := Lib.hid (Bb5.only Oo7 (by simp))
        have Q7 := Lib.hid Bb7
        have N5 := Lib.hid (fun i (hi : i < (mids (l.map StaffR.v) 64 300).length) => (Oo7.cell (p := ⟨g5, i, none⟩) (World.block_lt_of_cell? WW5 ⟨g5, i, none⟩ (Mm5 i hi)) (by simp)).trans (Mm5 i hi))
        have N7 := Lib.hid Mm7
        have s5 : WW7.cell? ⟨BX5, 0, none⟩ = some (.slice (some ⟨g5, 0, none⟩) l.length c5) := Q5.out.cell 0
        have s7 : WW7.cell? ⟨BX7, 0, none⟩ = some (.slice (some ⟨g7, 0, none⟩) l.length c7) := Q7.out.cell 0
        have XW := Lib.hid (((OW.out.trans OB.out).trans Oo5).trans Oo7)
        have nn : ((l.length : Int) != (l.length : Int)) = false := by simp
        have lf := HSW.out.few
        have lp := HSW.out.pos
        clear Oo5 Oo7 Mm5 Mm7 Bb5 Bb7
        go_wp2
        go_loopw [16] (fun i wr => ∃ j q : Nat, 1 ≤ j ∧ j ≤ l.length ∧ i = .int .i64 j ∧ wr = WW7.drewN q) (fun i _ => l.length - (intOf i).toNat)
        case atStart => exact ⟨1, 0, Nat.le_refl _, lp, rfl, rfl⟩
        case round =>
          obtain ⟨j, n, hj1, hj, rfl, rfl⟩ := hrel
          by_cases hlt : j < l.length
          · obtain ⟨q, rfl⟩ : ∃ q, j = q + 1 := ⟨j - 1, by omega⟩
            have mlen := ML.out
            have plen := partsOf_len l
            have t0 := N5.out q (by omega)
            have t1 := N5.out (q + 1) (by omega)
            have u0 := N7.out q (by omega)
            have u1 := N7.out (q + 1) (by omega)
            have law := grows_law (mids (l.map StaffR.v) 64 300) (partsOf l) (a := a) (b := b) (q := q) (by omega) (by omega) (by omega)
            have m0 := HPR.out.rng q (by omega)
            have m1 := HPR.out.rng (q + 1) (by omega)
            have d0 := getD_get (show q < (mids (l.map StaffR.v) 64 300).length by omega)
            have d1 := getD_get (show q + 1 < (mids (l.map StaffR.v) 64 300).length by omega)
            have v0 := spreadAt_rng (ms := mids (l.map StaffR.v) 64 300) (ps := partsOf l) (x := a) (i := q) (by omega) (by omega) (by omega) (by omega)
            have v1 := spreadAt_rng (ms := mids (l.map StaffR.v) 64 300) (ps := partsOf l) (x := a) (i := q + 1) (by omega) (by omega) (by omega) (by omega)
            have v2 := spreadAt_rng (ms := mids (l.map StaffR.v) 64 300) (ps := partsOf l) (x := b) (i := q) (by omega) (by omega) (by omega) (by omega)
            have v3 := spreadAt_rng (ms := mids (l.map StaffR.v) 64 300) (ps := partsOf l) (x := b) (i := q + 1) (by omega) (by omega) (by omega) (by omega)
            rw [d0] at v0 v2
            rw [d1] at v1 v3
            generalize spreadAt (mids (l.map StaffR.v) 64 300) (partsOf l) a q = x0 at *
            generalize spreadAt (mids (l.map StaffR.v) 64 300) (partsOf l) a (q + 1) = x1 at *
            generalize spreadAt (mids (l.map StaffR.v) 64 300) (partsOf l) b q = x2 at *
            generalize spreadAt (mids (l.map StaffR.v) 64 300) (partsOf l) b (q + 1) = x3 at *
            have f1 : IntKind.i64.wrap (x2 - x3) = x2 - x3 := IntWalk.i64_in _ (by omega)
            have f2 : IntKind.i64.wrap (x0 - x1) = x0 - x1 := IntWalk.i64_in _ (by omega)
            have f3 : IntKind.i64.wrap (x0 - x1 - 1) = x0 - x1 - 1 := IntWalk.i64_in _ (by omega)
            have hno : ¬ x2 - x3 < x0 - x1 - 1 := by omega
            clear d0 d1 mlen plen m0 m1 v0 v1 v2 v3 law
            have j0 : (0 : Int) ≤ ((q + 1 : Nat) : Int) := by omega
            have j1 : ((q + 1 : Nat) : Int) < (l.length : Int) := by omega
            have j2 : (((q + 1 : Nat) : Int) - 1) = (q : Int) := by omega
            have j3 : IntKind.i64.wrap ((q : Int)) = (q : Int) := IntWalk.i64_in _ (by omega)
            have j4 : (0 : Int) ≤ (q : Int) := by omega
            have j5 : (q : Int) < (l.length : Int) := by omega
            go_wp2
            go_quiet (fail)
            go_wp2
            go_roundw
            case rel => exact ⟨q + 1 + 1, _, by omega, by omega, by go_num, rfl⟩
            case measure => simp [intOf]; omega
          · obtain rfl : j = l.length := by omega
            go_wp2
            go_ret
            exact ⟨rfl, XW.out.drewN _⟩
  · have hx0 : min X.length 6 = 0 := by omega
    have HX0 := Lib.hid hx0
    clear hx0
    go_enter Try.func8, Try.ntmps8
    go_wp2_with (first
      | (have _t := b20; go_at_call 12; refine (known_any _).mono ?_; rintro e w3 ⟨rfl, o3⟩)
      | (go_at_call 16; refine (staves_any A X cx B P cp HX.out HP.out).mono ?_; rintro e w1 ⟨v, l, rfl, hc⟩; have b1 := HB.out.only hc.only (by simp); obtain ⟨A1, c1, rfl⟩ := own_slice hc.own; rw [HX0.out])
      | (go_at_call 12; refine (known_any _).mono ?_; rintro e w2 ⟨rfl, o2⟩; have b2 := b1.only o2 (by simp); have b20 := b2.cell 0; have b21 := b2.cell 1; simp at b20 b21))
    go_ret
    exact ⟨rfl, ((XO.out.trans hc.only).trans o2).trans o3⟩
end Go.Proofs.Yticpophdoiljfaa
