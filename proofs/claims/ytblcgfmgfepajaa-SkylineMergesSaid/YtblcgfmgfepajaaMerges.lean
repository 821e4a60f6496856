/- DERIVED. SkylineMerges: the walk. -/
import Derived.Test.YtblcgfmgfepajaaMerge
import Derived.Test.YtblcgfmgfepajaaTwo
namespace Go.Proofs.Ytblcgfmgfepajaa
open Go.RowKit
attribute [local go_sem ↓] Go.wp_at_zero Go.wp_at_succ

theorem raiseH_merge {side : Int} (hs : side = 1 ∨ side = -1) (h h2 : List Int) (a j : Nat) (h1 : a + j < h.length) (hj : j < h2.length) (hl : ∀ x ∈ h2, -1048576 ≤ x ∧ x ≤ 1048576) :
    raiseH side (mergeTo h h2 a j) ((a : Int) + (j : Int)) ((a : Int) + (j : Int)) (side * h2[j]) = mergeTo h h2 a (j + 1) := by
  have hr := hl h2[j] (List.getElem_mem hj)
  have e1 : colErr (mergeTo h h2 a j).length ((a : Int) + (j : Int)) ((a : Int) + (j : Int)) = 0 := by rw [mergeTo_len]; unfold colErr; split <;> omega
  have e2 : okB (side * h2[j]) = true := okB_iff.2 (side_range 1048576 hs hr)
  have e3 : h2.getD j 0 = h2[j] := by simp [List.getD, hj]
  rw [raiseH, if_pos ⟨e1, e2⟩, side_side _ hs, mergeTo, e3, show ((a : Int) + (j : Int)).toNat = a + j by omega]

set_option maxRecDepth 20000 in
set_option maxHeartbeats 4000000 in
theorem merges_any (bl : Bool) (c hh : Int) (hc0 : 0 ≤ c) (hc1 : c ≤ 255) (hr : -32768 ≤ hh ∧ hh ≤ 32767) (bl2 : Bool) (c2 hh2 : Int) (hc02 : 0 ≤ c2) (hc12 : c2 ≤ 255) (hr2 : -32768 ≤ hh2 ∧ hh2 ≤ 32767) (w : World) (A B : Option Addr) (ca cb : Nat) (opa opb : List OpR) (x : Int) (hoa : OpsAt w A opa) (hob : OpsAt w B opb) :
    Calls Try.prog 10 #[startV bl c hh, startV bl2 c2 hh2, .agg #[.slice A opa.length ca, .slice B opb.length cb, .int .i64 x]] w
      fun e w' => e = .returned (.bool true) ∧ Only [] w w' := by
  generalize hside : (if bl then (-1 : Int) else 1) = side
  generalize hH : playTo side (newH side (1 + c.toNat % 40) hh) opa 20 = H1
  generalize hside2 : (if bl2 then (-1 : Int) else 1) = side'
  generalize hH2 : playTo side' (newH side' (1 + c2.toNat % 40) hh2) opb 20 = H2
  have HP1 := Lib.hid (fun W hW => play_any bl c hh hc0 hc1 hr W A ca opa hW)
  have HP2 := Lib.hid (fun W hW => play_any bl2 c2 hh2 hc02 hc12 hr2 W B cb opb hW)
  rw [hside, hH] at HP1
  rw [hside2, hH2] at HP2
  clear hside hH hside2 hH2
  have HOA := Lib.hid hoa
  have HOB := Lib.hid hob
  have OB := Lib.hid ((((Only.refl [] w).alloc (.cells #[.bool bl, .int .u8 c, .int .i16 hh] 35)).alloc (.cells #[.bool bl2, .int .u8 c2, .int .i16 hh2] 35)).alloc (.cells #[.slice A opa.length ca, .slice B opb.length cb, .int .i64 x] 63))
  have SS := Lib.hid (((Blk.new w 35 [.bool bl, .int .u8 c, .int .i16 hh]).alloc (.cells #[.bool bl2, .int .u8 c2, .int .i16 hh2] 35)).alloc (.cells #[.slice A opa.length ca, .slice B opb.length cb, .int .i64 x] 63))
  have SS2 : Hid (Blk (((w.alloc (.cells #[.bool bl, .int .u8 c, .int .i16 hh] 35)).alloc (.cells #[.bool bl2, .int .u8 c2, .int .i16 hh2] 35)).alloc (.cells #[.slice A opa.length ca, .slice B opb.length cb, .int .i64 x] 63)) (w.heap.size + 1) 35 [.bool bl2, .int .u8 c2, .int .i16 hh2]) := Lib.hid (by
    have := (Blk.new (w.alloc (.cells #[.bool bl, .int .u8 c, .int .i16 hh] 35)) 35 [.bool bl2, .int .u8 c2, .int .i16 hh2]).alloc (.cells #[.slice A opa.length ca, .slice B opb.length cb, .int .i64 x] 63)
    rw [World.size_alloc] at this
    exact this)
  have TT : Hid (Blk (((w.alloc (.cells #[.bool bl, .int .u8 c, .int .i16 hh] 35)).alloc (.cells #[.bool bl2, .int .u8 c2, .int .i16 hh2] 35)).alloc (.cells #[.slice A opa.length ca, .slice B opb.length cb, .int .i64 x] 63)) (w.heap.size + 2) 63 [.slice A opa.length ca, .slice B opb.length cb, .int .i64 x]) := Lib.hid (by
    have := Blk.new ((w.alloc (.cells #[.bool bl, .int .u8 c, .int .i16 hh] 35)).alloc (.cells #[.bool bl2, .int .u8 c2, .int .i16 hh2] 35)) 63 [.slice A opa.length ca, .slice B opb.length cb, .int .i64 x]
    rw [World.size_alloc, World.size_alloc] at this
    exact this)
  clear hoa hob
  go_enter Try.func10, Try.ntmps10
  go_wp2_with (first
    | (go_at_call 13; refine (known_any _).mono ?_; rintro e w1 ⟨rfl, ho1⟩; have sB := SS.out.only ho1 (by simp); have sB0 := sB.cell 0; have sB1 := sB.cell 1; have sB2 := sB.cell 2; simp at sB0 sB1 sB2; have sC := SS2.out.only ho1 (by simp); have TT1 := TT.out.only ho1 (by simp); have t10 := TT1.cell 0; simp at t10)
    | (have _T := T; go_at_call 23; refine (HP2.out _ (HOB.out.only ((OB.out.trans ho1).trans ho2))).mono ?_; rintro e w3 ⟨s', g', m', k', cap', sp', rfl, hs', hg', hm', hk', hb', ho3⟩; have TT3 := TT2.only ho3 (by simp); have t32 := TT3.cell 2; simp at t32)
    | (go_at_call 23; refine (HP1.out _ (HOA.out.only (OB.out.trans ho1))).mono ?_; rintro e w2 ⟨s, g, m, k, cap, sp, rfl, hs, hg, hm, hk, hb, ho2⟩; have T := sC.only ho2 (by simp); have t0 := T.cell 0; have t1 := T.cell 1; have t2 := T.cell 2; simp at t0 t1 t2; have TT2 := TT1.only ho2 (by simp); have t21 := TT2.cell 1; simp at t21))
  have X3 := ((OB.out.trans ho1).trans ho2).trans ho3
  have n1 := hb.sky.head.lt
  have n2 := hb.sky.row.lt
  have n3 := hb.mod.head.lt
  have n4 := hb.mod.row.lt
  have b1 := hb.only ho3 (by simp) (by simp) (by simp) (by simp)
  have b2 := hb'
  have n5 := TT2.lt
  have zz : w.heap.size + 2 < w1.heap.size := TT1.lt
  have zg : w1.heap.size ≤ g := hg
  have zk : w1.heap.size ≤ k := hk
  generalize w.heap.size + 2 = D at *
  have q2 : w3.cell? ⟨D, 2, none⟩ = some (.int .i64 x) := TT3.cell 2
  have hD : D ≠ g ∧ D ≠ k := ⟨by omega, by omega⟩
  have hcross : s' ≠ g ∧ g' ≠ g ∧ m' ≠ g ∧ k' ≠ g ∧ s' ≠ k ∧ g' ≠ k ∧ m' ≠ k ∧ k' ≠ k := ⟨by omega, by omega, by omega, by omega, by omega, by omega, by omega, by omega⟩
  have hgk : w.heap.size ≤ g ∧ w.heap.size ≤ k := by have := OB.out.size; have := ho1.size; exact ⟨by omega, by omega⟩
  have Dlt : D < w3.heap.size := TT3.lt
  clear HP1 HP2 HOA HOB OB SS SS2 TT TT1 TT2 sB sC sB0 sB1 sB2 t10 t0 t1 t2 t21 t32 ho1 ho2 ho3 hb hb' n1 n2 n3 n4 n5 zz zg zk hs hg hm hk hs' hg' hm' hk' _T
  have f1 := b1.mod.few
  have f2 := b2.mod.few
  have d0 := b1.mod.side0
  have d1 := b2.mod.side0
  have d2 := b1.mod.h0
  have d3 := b2.mod.h0
  by_cases hsd : side = side'
  · subst hsd
    have e0 : (side != side) = false := by simp
    by_cases hx : x < 0 ∨ (H1.length : Int) - (H2.length : Int) < x
    · refine (merge_range b1.sky b2.sky x hx).mono ?_
      rintro e w4 ⟨rfl, n, rfl⟩
      have e1 : IntKind.i64.wrap ((H1.length : Int) - (H2.length : Int)) = (H1.length : Int) - (H2.length : Int) := IntWalk.i64_in _ (by omega)
      by_cases hx0 : x < 0
      · clear hx
        go_wp2
        go_quiet (fail)
        go_wp2
        go_quiet (fail)
        go_wp2_with (go_at_call 26; refine (is_any (b1.drewN _)).mono ?_; rintro e w' ⟨rfl, n, rfl⟩)
        go_ret
        exact ⟨rfl, X3.drewN _⟩
      · have hx' : (H1.length : Int) - (H2.length : Int) < x := by omega
        clear hx
        go_wp2
        go_quiet (fail)
        go_wp2
        go_quiet (fail)
        go_wp2_with (go_at_call 26; refine (is_any (b1.drewN _)).mono ?_; rintro e w' ⟨rfl, n, rfl⟩)
        go_ret
        exact ⟨rfl, X3.drewN _⟩
    · obtain ⟨a, rfl⟩ := Int.eq_ofNat_of_zero_le (show 0 ≤ x by omega)
      have ha : a + H2.length ≤ H1.length := by omega
      refine (merge_ok b1.sky b2.sky a ha).mono ?_
      rintro e w4 ⟨rfl, S4, o4⟩
      have e1 : IntKind.i64.wrap ((H1.length : Int) - (H2.length : Int)) = (H1.length : Int) - (H2.length : Int) := IntWalk.i64_in _ (by omega)
      have e2 : ¬ (a : Int) < 0 := by omega
      have e3 : ¬ (H1.length : Int) - (H2.length : Int) < (a : Int) := by omega
      have M4 := b1.mod.only o4 (by simpa using b1.gm.symm) (by simpa using b1.gk.symm)
      have B4 := b2.only o4 (by simpa using hcross.1) (by simpa using hcross.2.1) (by simpa using hcross.2.2.1) (by simpa using hcross.2.2.2.1)
      have T4 := (o4.cell (p := ⟨D, 2, none⟩) Dlt (by simpa using hD.1)).trans q2
      have X4 : Only [g] w w4 := (X3.more (by simp)).trans o4
      have D4 : D < w4.heap.size := Nat.lt_of_lt_of_le Dlt o4.size
      have HB1 := Lib.hid b1
      have v0 := M4.side0
      have v1 := B4.mod.side0
      have v2 := M4.h0
      have v3 := B4.mod.h0
      clear d0 d1 d2 d3 q2 TT3 X3 o4 b1 b2 hx
      go_wp2
      go_quiet (fail)
      go_wp2
      go_quiet (fail)
      go_wp2
      go_loopw [12] (fun i wr => ∃ j n : Nat, ∃ w5, j ≤ H2.length ∧ i = .int .i64 j ∧ wr = w5.drewN n ∧ Mod w5 m k cap sp side (mergeTo H1 H2 a j) ∧ Only [k] w4 w5) (fun i _ => H2.length - (intOf i).toNat)
      case atStart => exact ⟨0, _, w4, Nat.zero_le _, rfl, World.drewN_drewN .., M4, Only.refl _ _⟩
      case round =>
        obtain ⟨j, n, w5, hj, rfl, rfl, hM, o5⟩ := hrel
        have B5 := B4.only o5 (by simpa using hcross.2.2.2.2.1) (by simpa using hcross.2.2.2.2.2.1) (by simpa using hcross.2.2.2.2.2.2.1) (by simpa using hcross.2.2.2.2.2.2.2)
        have T5 : w5.cell? ⟨D, 2, none⟩ = some (.int .i64 a) := (o5.cell (p := ⟨D, 2, none⟩) D4 (by simpa using hD.2)).trans T4
        have u3 : w5.cell? ⟨m', 1, none⟩ = some (.slice (some ⟨k', 0, none⟩) H2.length cap') := B5.mod.h0
        have D5 : D < w5.heap.size := Nat.lt_of_lt_of_le D4 o5.size
        have L1 := B5.mod.head.lt
        have L2 := B5.mod.row.lt
        by_cases hlt : j < H2.length
        · have u4 := B5.mod.at_ hlt
          have j0 : (0 : Int) ≤ (j : Int) := by omega
          have j1 : (j : Int) < (H2.length : Int) := by omega
          have j2 : IntKind.i64.wrap ((a : Int) + (j : Int)) = (a : Int) + (j : Int) := IntWalk.i64_in _ (by omega)
          have HRM := Lib.hid (raiseH_merge B5.mod.sides H1 H2 a j (by omega) hlt B5.mod.low)
          clear v0 v1 v2 v3 T4 B4 M4
          go_wp2
          go_region_held3 (fun w' => w'.cell? ⟨D, 2, none⟩ = some (.int .i64 a) ∧ w'.cell? ⟨m', 1, none⟩ = some (.slice (some ⟨k', 0, none⟩) H2.length cap') ∧ w'.cell? ⟨k', j, none⟩ = some (.int .i64 (side * H2[j]))) (first | exact ⟨T5, u3, u4⟩ | exact ⟨y1, y2, y3⟩) (first
            | (go_at_call 34; refine (mraise_any (hM.drewN _).drew _ _ _).mono ?_; rintro e w6 ⟨rfl, hM6, o6⟩; have y1 := (o6.cell (p := ⟨D, 2, none⟩) D5 (by simpa using hD.2)).trans T5; have y2 := (o6.cell (p := ⟨m', 1, none⟩) L1 (by simpa using hcross.2.2.2.2.2.2.1)).trans u3; have y3 := (o6.cell (p := ⟨k', j, none⟩) L2 (by simpa using hcross.2.2.2.2.2.2.2)).trans u4))
          go_wp2
          go_roundw
          case rel => exact ⟨j + 1, 0, _, by omega, by go_num, rfl, by rw [← HRM.out]; exact hM6, o5.trans (((Only.refl [k] _).drewN n).drew.trans o6)⟩
          case measure => simp [intOf]; omega
        · obtain rfl : j = H2.length := by omega
          have j1 : ¬ (H2.length : Int) < (H2.length : Int) := by omega
          have HBF : Hid (Both w5 s g m k cap sp side (mergeTo H1 H2 a H2.length)) := Lib.hid ⟨S4.only o5 (by simpa using HB1.out.sk) (by simpa using HB1.out.gk), hM, HB1.out.sk, HB1.out.gm, HB1.out.gk⟩
          clear v0 v1 v2 v3 T4 B4 M4
          go_wp2_with (first
            | (have _z := z1; go_at_call 26; refine (is_any (B5.drewN _)).mono ?_; rintro e w' ⟨rfl, z2, rfl⟩)
            | (go_at_call 26; refine (is_any (HBF.out.drewN _)).mono ?_; rintro e w' ⟨rfl, z1, rfl⟩))
          go_ret
          refine ⟨rfl, (((X4.more (T := [g, k]) (by simp)).trans (o5.more (by simp))).less fun i hi hl => ?_).drewN _⟩
          simp at hi
          omega
  · have e0 : (side != side') = true := by simpa using hsd
    refine (merge_kind b1.sky b2.sky hsd x).mono ?_
    rintro e w4 ⟨rfl, n, rfl⟩
    go_wp2
    go_quiet (fail)
    go_wp2_with (go_at_call 26; refine (is_any (b1.drewN _)).mono ?_; rintro e w' ⟨rfl, n, rfl⟩)
    go_ret
    exact ⟨rfl, X3.drewN _⟩
end Go.Proofs.Ytblcgfmgfepajaa
