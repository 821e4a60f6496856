/- DERIVED. SkylineTouches: the walk. -/
import Derived.Test.YtblcgfmgfepajaaPlays
import Derived.Test.YtblcgfmgfepajaaTouch
import Derived.Deep.RegionHeld3
import Derived.Deep.DrawnRows
namespace Go.Proofs.Ytblcgfmgfepajaa
open Go.RowKit
attribute [local go_sem ↓] Go.wp_at_zero Go.wp_at_succ

set_option maxHeartbeats 2000000 in
theorem touches_any (bl : Bool) (c hh : Int) (hc0 : 0 ≤ c) (hc1 : c ≤ 255) (hr : -32768 ≤ hh ∧ hh ≤ 32767) (w : World) (A : Option Addr) (cp : Nat) (ops : List OpR) (ho : OpsAt w A ops) (o : OpR) :
    Calls Try.prog 5 #[startV bl c hh, .slice A ops.length cp, .agg o.cells.toArray] w
      fun e w' => e = .returned (.bool true) ∧ Only [] w w' := by
  generalize hside : (if bl then (-1 : Int) else 1) = side
  generalize hH : playTo side (newH side (1 + c.toNat % 40) hh) ops 20 = H
  have HP := Lib.hid (fun W hW => play_any bl c hh hc0 hc1 hr W A cp ops hW)
  rw [hside, hH] at HP
  clear hside hH
  have HO := Lib.hid ho
  rw [show o.cells.toArray = #[.int .u8 o.kd, .int .i64 o.a, .int .i64 o.b, .int .i64 o.c, .int .i64 o.d, .int .i64 o.e, .int .i64 o.l, .int .i64 o.bb, .int .i64 o.r, .int .i64 o.t] from rfl]
  have OB := Lib.hid (((Only.refl [] w).alloc (.cells #[.bool bl, .int .u8 c, .int .i16 hh] 35)).alloc (.cells #[.int .u8 o.kd, .int .i64 o.a, .int .i64 o.b, .int .i64 o.c, .int .i64 o.d, .int .i64 o.e, .int .i64 o.l, .int .i64 o.bb, .int .i64 o.r, .int .i64 o.t] 43))
  have s := (Blk.new w 35 [.bool bl, .int .u8 c, .int .i16 hh]).alloc (.cells #[.int .u8 o.kd, .int .i64 o.a, .int .i64 o.b, .int .i64 o.c, .int .i64 o.d, .int .i64 o.e, .int .i64 o.l, .int .i64 o.bb, .int .i64 o.r, .int .i64 o.t] 43)
  have t : Blk ((w.alloc (.cells #[.bool bl, .int .u8 c, .int .i16 hh] 35)).alloc (.cells #[.int .u8 o.kd, .int .i64 o.a, .int .i64 o.b, .int .i64 o.c, .int .i64 o.d, .int .i64 o.e, .int .i64 o.l, .int .i64 o.bb, .int .i64 o.r, .int .i64 o.t] 43)) (w.heap.size + 1) 43 o.cells := by
    have := Blk.new (w.alloc (.cells #[.bool bl, .int .u8 c, .int .i16 hh] 35)) 43 o.cells
    rw [World.size_alloc] at this
    exact this
  have SS := Lib.hid s
  have TT := Lib.hid t
  clear s t ho
  go_enter Try.func5, Try.ntmps5
  go_wp2_with (first
    | (go_at_call 13; refine (known_any _).mono ?_; rintro e w1 ⟨rfl, ho1⟩; have sB := SS.out.only ho1 (by simp); have sB0 := sB.cell 0; have sB1 := sB.cell 1; have sB2 := sB.cell 2; simp at sB0 sB1 sB2; have TT1 := TT.out.only ho1 (by simp))
    | (go_at_call 23; refine (HP.out _ ((HO.out.only OB.out).only ho1)).mono ?_; rintro e w2 ⟨s, g, m, k, cap, sp, rfl, hs, hg, hm, hk, hb, ho2⟩; have T2 := TT1.only ho2 (by simp)))
  generalize w.heap.size + 1 = B at *
  have t1 : w2.cell? ⟨B, 1, none⟩ = some (.int .i64 o.a) := T2.cell 1; have t2 : w2.cell? ⟨B, 2, none⟩ = some (.int .i64 o.b) := T2.cell 2; have t6 : w2.cell? ⟨B, 6, none⟩ = some (.int .i64 o.l) := T2.cell 6; have t7 : w2.cell? ⟨B, 7, none⟩ = some (.int .i64 o.bb) := T2.cell 7; have t8 : w2.cell? ⟨B, 8, none⟩ = some (.int .i64 o.r) := T2.cell 8; have t9 : w2.cell? ⟨B, 9, none⟩ = some (.int .i64 o.t) := T2.cell 9
  clear sB sB0 sB1 sB2
  have T2' := Lib.hid T2
  have HB := Lib.hid hb
  go_region_held3 (fun w' => w'.cell? ⟨B, 1, none⟩ = some (.int .i64 o.a) ∧ w'.cell? ⟨B, 2, none⟩ = some (.int .i64 o.b) ∧ w'.cell? ⟨B, 6, none⟩ = some (.int .i64 o.l) ∧ w'.cell? ⟨B, 7, none⟩ = some (.int .i64 o.bb) ∧ w'.cell? ⟨B, 8, none⟩ = some (.int .i64 o.r) ∧ w'.cell? ⟨B, 9, none⟩ = some (.int .i64 o.t)) (first | exact ⟨t1, t2, t6, t7, t8, t9⟩ | exact ⟨u1, u2, u6, u7, u8, u9⟩ | exact ⟨x1, x2, x6, x7, x8, x9⟩) (first
    | (go_at_call 24; refine (Touches_any HB.out.sky.drew _ _ _ _ _ _).mono ?_; rintro e w3 ⟨rfl, ho3⟩; have U3 := T2'.out.drew.only ho3 (by simp); have u1 : w3.cell? ⟨B, 1, none⟩ = some (.int .i64 o.a) := U3.cell 1; have u2 : w3.cell? ⟨B, 2, none⟩ = some (.int .i64 o.b) := U3.cell 2; have u6 : w3.cell? ⟨B, 6, none⟩ = some (.int .i64 o.l) := U3.cell 6; have u7 : w3.cell? ⟨B, 7, none⟩ = some (.int .i64 o.bb) := U3.cell 7; have u8 : w3.cell? ⟨B, 8, none⟩ = some (.int .i64 o.r) := U3.cell 8; have u9 : w3.cell? ⟨B, 9, none⟩ = some (.int .i64 o.t) := U3.cell 9)
    | (go_at_call 25; refine (mtouches_any (HB.out.mod.drew.only ho3 (by simp) (by simp)) _ _ _ _ _ _).mono ?_; rintro e w4 ⟨rfl, ho4⟩; have X4 := U3.only ho4 (by simp); have x1 : w4.cell? ⟨B, 1, none⟩ = some (.int .i64 o.a) := X4.cell 1; have x2 : w4.cell? ⟨B, 2, none⟩ = some (.int .i64 o.b) := X4.cell 2; have x6 : w4.cell? ⟨B, 6, none⟩ = some (.int .i64 o.l) := X4.cell 6; have x7 : w4.cell? ⟨B, 7, none⟩ = some (.int .i64 o.bb) := X4.cell 7; have x8 : w4.cell? ⟨B, 8, none⟩ = some (.int .i64 o.r) := X4.cell 8; have x9 : w4.cell? ⟨B, 9, none⟩ = some (.int .i64 o.t) := X4.cell 9))
  go_wp2
  go_ret
  exact ⟨rfl, ((OB.out.trans ho1).trans ho2).drew.trans (ho3.trans ho4)⟩
end Go.Proofs.Ytblcgfmgfepajaa
