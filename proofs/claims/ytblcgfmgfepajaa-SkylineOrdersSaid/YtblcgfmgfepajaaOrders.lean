/- DERIVED. SkylineOrders: the walk. -/
import Derived.Test.YtblcgfmgfepajaaPlays
import Derived.Test.YtblcgfmgfepajaaClone
import Derived.Test.YtblcgfmgfepajaaPair
namespace Go.Proofs.Ytblcgfmgfepajaa
open Go.RowKit

theorem raised_comm (h : List Int) (a k : Nat) (v : Int) (a' k' : Nat) (v' : Int) : raised (raised h a k v) a' k' v' = raised (raised h a' k' v') a k v := by
  apply List.ext_getElem (by simp [raised_len])
  intro i h1 h2
  simp only [raised, List.getElem_mapIdx]
  repeat' split
  all_goals omega
theorem raiseH_comm (side : Int) (h : List Int) (f l v f' l' v' : Int) : raiseH side (raiseH side h f l v) f' l' v' = raiseH side (raiseH side h f' l' v') f l v := by
  unfold raiseH
  by_cases c1 : colErr h.length f l = 0 ∧ okB v = true
  · by_cases c2 : colErr h.length f' l' = 0 ∧ okB v' = true
    · simp only [if_pos c1, if_pos c2, raised_len]
      exact raised_comm ..
    · simp only [if_pos c1, if_neg c2, raised_len]
  · by_cases c2 : colErr h.length f' l' = 0 ∧ okB v' = true
    · simp only [if_neg c1, if_pos c2, raised_len]
    · simp only [if_neg c1, if_neg c2]
theorem raiseH_ge (side : Int) (h : List Int) (f l v : Int) (i : Nat) (h1 : i < h.length) (h2 : i < (raiseH side h f l v).length) : h[i] ≤ (raiseH side h f l v)[i] := by
  unfold raiseH at h2 ⊢
  by_cases c1 : colErr h.length f l = 0 ∧ okB v = true
  · simp only [if_pos c1] at h2 ⊢
    simp only [raised, List.getElem_mapIdx]
    repeat' split
    all_goals omega
  · simp only [if_neg c1] at h2 ⊢
    omega

set_option maxRecDepth 20000 in
set_option maxHeartbeats 2000000 in
theorem orders_any (bl : Bool) (c hh : Int) (hc0 : 0 ≤ c) (hc1 : c ≤ 255) (hr : -32768 ≤ hh ∧ hh ≤ 32767) (w : World) (A : Option Addr) (cp : Nat) (ops : List OpR) (ho : OpsAt w A ops) (o q : OpR) :
    Calls Try.prog 11 #[startV bl c hh, .slice A ops.length cp, .agg (pairCells o q).toArray] w
      fun e w' => e = .returned (.bool true) ∧ Only [] w w' := by
  generalize hside : (if bl then (-1 : Int) else 1) = side
  generalize hH : playTo side (newH side (1 + c.toNat % 40) hh) ops 20 = H
  have HP := Lib.hid (fun W hW => play_any bl c hh hc0 hc1 hr W A cp ops hW)
  rw [hside, hH] at HP
  clear hside hH
  have HO := Lib.hid ho
  rw [show (pairCells o q).toArray = #[.int .u8 o.kd, .int .i64 o.a, .int .i64 o.b, .int .i64 o.c, .int .i64 o.d, .int .i64 o.e, .int .i64 o.l, .int .i64 o.bb, .int .i64 o.r, .int .i64 o.t, .int .u8 q.kd, .int .i64 q.a, .int .i64 q.b, .int .i64 q.c, .int .i64 q.d, .int .i64 q.e, .int .i64 q.l, .int .i64 q.bb, .int .i64 q.r, .int .i64 q.t] from rfl]
  have OB := Lib.hid (((Only.refl [] w).alloc (.cells #[.bool bl, .int .u8 c, .int .i16 hh] 35)).alloc (.cells #[.int .u8 o.kd, .int .i64 o.a, .int .i64 o.b, .int .i64 o.c, .int .i64 o.d, .int .i64 o.e, .int .i64 o.l, .int .i64 o.bb, .int .i64 o.r, .int .i64 o.t, .int .u8 q.kd, .int .i64 q.a, .int .i64 q.b, .int .i64 q.c, .int .i64 q.d, .int .i64 q.e, .int .i64 q.l, .int .i64 q.bb, .int .i64 q.r, .int .i64 q.t] 69))
  have SS := Lib.hid ((Blk.new w 35 [.bool bl, .int .u8 c, .int .i16 hh]).alloc (.cells #[.int .u8 o.kd, .int .i64 o.a, .int .i64 o.b, .int .i64 o.c, .int .i64 o.d, .int .i64 o.e, .int .i64 o.l, .int .i64 o.bb, .int .i64 o.r, .int .i64 o.t, .int .u8 q.kd, .int .i64 q.a, .int .i64 q.b, .int .i64 q.c, .int .i64 q.d, .int .i64 q.e, .int .i64 q.l, .int .i64 q.bb, .int .i64 q.r, .int .i64 q.t] 69))
  have TT : Hid (Blk ((w.alloc (.cells #[.bool bl, .int .u8 c, .int .i16 hh] 35)).alloc (.cells #[.int .u8 o.kd, .int .i64 o.a, .int .i64 o.b, .int .i64 o.c, .int .i64 o.d, .int .i64 o.e, .int .i64 o.l, .int .i64 o.bb, .int .i64 o.r, .int .i64 o.t, .int .u8 q.kd, .int .i64 q.a, .int .i64 q.b, .int .i64 q.c, .int .i64 q.d, .int .i64 q.e, .int .i64 q.l, .int .i64 q.bb, .int .i64 q.r, .int .i64 q.t] 69)) (w.heap.size + 1) 69 (pairCells o q)) := Lib.hid (by
    have := Blk.new (w.alloc (.cells #[.bool bl, .int .u8 c, .int .i16 hh] 35)) 69 (pairCells o q)
    rw [World.size_alloc] at this
    exact this)
  clear ho
  go_enter Try.func11, Try.ntmps11
  go_wp2_with (first
    | (go_at_call 13; refine (known_any _).mono ?_; rintro e w1 ⟨rfl, ho1⟩; have sB := SS.out.only ho1 (by simp); have sB0 := sB.cell 0; have sB1 := sB.cell 1; have sB2 := sB.cell 2; simp at sB0 sB1 sB2; have TT1 := TT.out.only ho1 (by simp))
    | (go_at_call 23; refine (HP.out _ ((HO.out.only OB.out).only ho1)).mono ?_; rintro e w2 ⟨s, g, m, k, cap, sp, rfl, hs, hg, hm, hk, hb, ho2⟩; have T2 := TT1.only ho2 (by simp)))
  have l1 := hb.sky.head.lt
  have l2 := hb.sky.row.lt
  have S2 := hb.sky
  have X2 := (OB.out.trans ho1).trans ho2
  have T2l := T2.lt
  generalize w.heap.size + 1 = B at *
  clear hb ho1 ho2 hs hg hm hk sB sB0 sB1 sB2 SS TT TT1 HP HO OB
  refine (Clone_any S2.gky).mono ?_
  rintro e w3 ⟨sa, ga, capa, spa, rfl, hsa, hga, A3, o3⟩
  have S3 := S2.only o3 (by simp) (by simp)
  have T3 := T2.only o3 (by simp)
  have X3 := X2.trans o3
  have l3 := A3.head.lt
  have l4 := A3.row.lt
  have z3 := o3.size
  go_wp2_with fail
  refine (Clone_any S3.gky).mono ?_
  rintro e w4 ⟨sb, gb, capb, spb, rfl, hsb, hgb, B4, o4⟩
  have S4 := S3.only o4 (by simp) (by simp)
  have T4 := T3.only o4 (by simp)
  have A4 := A3.only o4 (by simp) (by simp)
  have X4 := X3.trans o4
  have z4 := o4.size
  have t1 : w4.cell? ⟨B, 1, none⟩ = some (.int .i64 o.a) := T4.cell 1; have t2 : w4.cell? ⟨B, 2, none⟩ = some (.int .i64 o.b) := T4.cell 2; have t3 : w4.cell? ⟨B, 3, none⟩ = some (.int .i64 o.c) := T4.cell 3; have t11 : w4.cell? ⟨B, 11, none⟩ = some (.int .i64 q.a) := T4.cell 11; have t12 : w4.cell? ⟨B, 12, none⟩ = some (.int .i64 q.b) := T4.cell 12; have t13 : w4.cell? ⟨B, 13, none⟩ = some (.int .i64 q.c) := T4.cell 13
  go_wp2_with fail
  refine (gRaise_any A4 _ _ _).mono ?_
  rintro e w5 ⟨rfl, A5, o5⟩
  have S5 := S4.only o5 (by simp; omega) (by simp; omega)
  have T5 := T4.only o5 (by simp; omega)
  have B5 := B4.only o5 (by simp; omega) (by simp; omega)
  have u1 : w5.cell? ⟨B, 1, none⟩ = some (.int .i64 o.a) := T5.cell 1; have u2 : w5.cell? ⟨B, 2, none⟩ = some (.int .i64 o.b) := T5.cell 2; have u3 : w5.cell? ⟨B, 3, none⟩ = some (.int .i64 o.c) := T5.cell 3; have u11 : w5.cell? ⟨B, 11, none⟩ = some (.int .i64 q.a) := T5.cell 11; have u12 : w5.cell? ⟨B, 12, none⟩ = some (.int .i64 q.b) := T5.cell 12; have u13 : w5.cell? ⟨B, 13, none⟩ = some (.int .i64 q.c) := T5.cell 13
  clear A4 B4 S4
  go_wp2_with fail
  refine (gRaise_any A5 _ _ _).mono ?_
  rintro e w6 ⟨rfl, A6, o6⟩
  have S6 := S5.only o6 (by simp; omega) (by simp; omega)
  have T6 := T5.only o6 (by simp; omega)
  have B6 := B5.only o6 (by simp; omega) (by simp; omega)
  have x1 : w6.cell? ⟨B, 1, none⟩ = some (.int .i64 o.a) := T6.cell 1; have x2 : w6.cell? ⟨B, 2, none⟩ = some (.int .i64 o.b) := T6.cell 2; have x3 : w6.cell? ⟨B, 3, none⟩ = some (.int .i64 o.c) := T6.cell 3; have x11 : w6.cell? ⟨B, 11, none⟩ = some (.int .i64 q.a) := T6.cell 11; have x12 : w6.cell? ⟨B, 12, none⟩ = some (.int .i64 q.b) := T6.cell 12; have x13 : w6.cell? ⟨B, 13, none⟩ = some (.int .i64 q.c) := T6.cell 13
  clear A5 B5 S5
  go_wp2_with fail
  refine (gRaise_any B6 _ _ _).mono ?_
  rintro e w7 ⟨rfl, B7, o7⟩
  have S7 := S6.only o7 (by simp; omega) (by simp; omega)
  have T7 := T6.only o7 (by simp; omega)
  have A7 := A6.only o7 (by simp; omega) (by simp; omega)
  have y1 : w7.cell? ⟨B, 1, none⟩ = some (.int .i64 o.a) := T7.cell 1; have y2 : w7.cell? ⟨B, 2, none⟩ = some (.int .i64 o.b) := T7.cell 2; have y3 : w7.cell? ⟨B, 3, none⟩ = some (.int .i64 o.c) := T7.cell 3; have y11 : w7.cell? ⟨B, 11, none⟩ = some (.int .i64 q.a) := T7.cell 11; have y12 : w7.cell? ⟨B, 12, none⟩ = some (.int .i64 q.b) := T7.cell 12; have y13 : w7.cell? ⟨B, 13, none⟩ = some (.int .i64 q.c) := T7.cell 13
  clear A6 B6 S6
  go_wp2_with fail
  refine (gRaise_any B7 _ _ _).mono ?_
  rintro e w8 ⟨rfl, B8, o8⟩
  have S8 := S7.only o8 (by simp; omega) (by simp; omega)
  have A8 := A7.only o8 (by simp; omega) (by simp; omega)
  have X8 : Only [] w w8 := (((((X4.more (T := [ga, gb]) (by simp)).trans (o5.more (by simp))).trans (o6.more (by simp))).trans (o7.more (by simp))).trans (o8.more (by simp))).less fun i hi hl => by
    have := X2.size
    simp at hi
    omega
  rw [raiseH_comm] at B8
  have hge : ∀ i (h1 : i < H.length) (h2 : i < (raiseH side (raiseH side H o.a o.b o.c) q.a q.b q.c).length), H[i] ≤ (raiseH side (raiseH side H o.a o.b o.c) q.a q.b q.c)[i] := fun i h1 h2 =>
    Int.le_trans (raiseH_ge side H o.a o.b o.c i h1 (by rw [raiseH_len]; exact h1)) (raiseH_ge side _ q.a q.b q.c i (by rw [raiseH_len]; exact h1) h2)
  have hlen : (raiseH side (raiseH side H o.a o.b o.c) q.a q.b q.c).length = H.length := by rw [raiseH_len, raiseH_len]
  have HEQ := Lib.hid (show eqB side side (raiseH side (raiseH side H o.a o.b o.c) q.a q.b q.c) (raiseH side (raiseH side H o.a o.b o.c) q.a q.b q.c) = true by simp [eqB])
  generalize raiseH side (raiseH side H o.a o.b o.c) q.a q.b q.c = HA at *
  have hfew := S8.few
  clear A7 B7 S7 o5 o6 o7 o8 o3 o4 X2 X3 X4 S2 S3 T2 T3 T4 T5 T6 T7 t1 t2 t3 t11 t12 t13 u1 u2 u3 u11 u12 u13 x1 x2 x3 x11 x12 x13 y1 y2 y3 y11 y12 y13
  go_wp2_with fail
  go_loopw [11] (fun i wr => ∃ j n : Nat, j ≤ H.length ∧ i = .int .i64 j ∧ wr = w8.drewN n) (fun i _ => H.length - (intOf i).toNat)
  case atStart => exact ⟨0, 0, Nat.zero_le _, rfl, rfl⟩
  case round =>
    obtain ⟨j, n, hj, rfl, rfl⟩ := hrel
    by_cases hlt : j < H.length
    · have hlt' : j < HA.length := by omega
      have D1 := Lib.hid (colErr_self hlt)
      have D2 := Lib.hid (mostV_self (side := side) hlt)
      have D3 := Lib.hid (colErr_self hlt')
      have D4 := Lib.hid (mostV_self (side := side) hlt')
      have v1 := S8.low H[j] (List.getElem_mem hlt)
      have v2 := A8.low HA[j] (List.getElem_mem hlt')
      have v3 := hge j hlt hlt'
      have HSD := Lib.hid S8.sides
      have y1 : IntKind.i64.wrap (side * (side * H[j])) = H[j] := by rw [side_side _ HSD.out]; exact IntWalk.i64_in _ (by omega)
      have y2 : IntKind.i64.wrap (side * (side * HA[j])) = HA[j] := by rw [side_side _ HSD.out]; exact IntWalk.i64_in _ (by omega)
      have y3 : ¬ HA[j] < H[j] := by omega
      have j0 : (0 : Int) ≤ (j : Int) := by omega
      have j1 : (j : Int) < (H.length : Int) := by omega
      go_wp2_with (first
        | (go_at_call 19; refine (ncols_any (S8.drewN _)).mono ?_; rintro e w9 ⟨rfl, rfl⟩)
        | (go_at_call 18; refine (side_any (S8.drewN _)).mono ?_; rintro e w9 ⟨rfl, rfl⟩)
        | (have _a := a1; go_at_call 17; refine (gat_any (A8.drewN _) _).mono ?_; rintro e w9 ⟨rfl, n2, rfl⟩; rw [D3.out, D4.out])
        | (go_at_call 17; refine (at_any (S8.drewN _) _).mono ?_; rintro e w9 ⟨rfl, n1, rfl⟩; have a1 := n1; rw [D1.out, D2.out]))
      go_roundw
      case rel => exact ⟨j + 1, _, by omega, by go_num, rfl⟩
      case measure => simp [intOf]; omega
    · have j1 : ¬ (j : Int) < (H.length : Int) := by omega
      go_wp2_with (first
        | (go_at_call 19; refine (ncols_any (S8.drewN _)).mono ?_; rintro e w9 ⟨rfl, rfl⟩)
        | (go_at_call 35; refine (Equal_any (A8.drewN _) (B8.drewN _)).mono ?_; rintro e w9 ⟨rfl, n1, rfl⟩; rw [HEQ.out]))
      go_ret
      exact ⟨rfl, X8.drewN _⟩
end Go.Proofs.Ytblcgfmgfepajaa
