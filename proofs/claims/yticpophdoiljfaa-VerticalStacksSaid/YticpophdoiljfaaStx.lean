/- DERIVED. VerticalStacks: the walk. -/
import Derived.Test.YticpophdoiljfaaMsk
import Derived.Test.YticpophdoiljfaaSpw
import Derived.Test.YticpophdoiljfaaEqs
namespace Go.Proofs.Yticpophdoiljfaa
open Go.RowKit
attribute [local go_sem ↓] Go.wp_at_zero Go.wp_at_succ

theorem stack_clr {w : World} {k n : Nat} {l : List StaffR} (h : Stv w k l n) {gap least T U : Int} (g0 : 0 ≤ gap) (g1 : gap ≤ 65536) (hp : Proper (mids (l.map StaffR.v) gap least) T U) :
    clrB l (mids (l.map StaffR.v) gap least) T U gap = true := by
  have ml : (mids (l.map StaffR.v) gap least).length = l.length := by rw [mids_len, List.length_map]
  refine clrB_true ⟨hp, ml, ⟨g0, g1⟩, fun i hi c h1 h2 => ?_⟩
  rw [mids_get _ _ _ _ (by rw [List.length_map]; omega), mids_get _ _ _ _ (by rw [List.length_map]; omega)]
  have hg := stack_gap h gap least i hi c h1 h2
  omega

set_option maxRecDepth 20000 in
set_option maxHeartbeats 40000000 in
theorem stacks_any {w : World} {A : Option Addr} {X : List (List (Int × Int))} (cx : Nat) (hX : ColsAt w A X) {B : Option Addr} {P : List Int} (cp : Nat) (hP : BytesAt w B P) (x y : Int) (hx : 0 ≤ x ∧ x ≤ 255) (hy : 0 ≤ y ∧ y ≤ 255) :
    Calls Try.prog 6 #[.slice A X.length cx, .slice B P.length cp, .agg #[.int .u8 x, .int .u8 y]] w fun e w' => e = .returned (.bool true) ∧ Only [] w w' := by
  have XF := hX.few
  have PF := hP.few
  have XO := Lib.hid ((Only.refl [] w).alloc (.cells #[.int .u8 x, .int .u8 y] 33))
  have HB := Lib.hid (Blk.new w 33 [.int .u8 x, .int .u8 y])
  have HX := Lib.hid (hX.only XO.out (by simp))
  have HP := Lib.hid (hP.only XO.out (by simp))
  clear hX hP
  by_cases hz : 0 < X.length
  · have HZ := Lib.hid hz
    have wa : IntKind.i64.wrap x = x := IntWalk.i64_in _ (by omega)
    have wb : IntKind.i64.wrap y = y := IntWalk.i64_in _ (by omega)
    have wc : IntKind.i64.wrap (4 * y) = 4 * y := IntWalk.i64_in _ (by omega)
    have wd : IntKind.i64.wrap (1 + 4 * y) = 1 + 4 * y := IntWalk.i64_in _ (by omega)
    go_enter Try.func6, Try.ntmps6
    go_wp2_with (first
      | (go_at_call 12; refine (known_any _).mono ?_; rintro e w2 ⟨rfl, o2⟩; have b2 := b1.only o2 (by simp); have b20 := b2.cell 0; have b21 := b2.cell 1; simp at b20 b21)
      | (go_at_call 16; refine (staves_any A X cx B P cp HX.out HP.out).mono ?_; rintro e w1 ⟨v, l, rfl, hc⟩; have b1 := HB.out.only hc.only (by simp); obtain ⟨k, cap, rfl, hk, hst, hL⟩ := stv_of_coll hc HZ.out HX.out.rng HP.out.rng; have HST := Lib.hid hst; have l0 : ((l.length : Int) == 0) = false := (by rw [beq_eq_false_iff_ne]; have := hst.pos; omega)))
    have X2 := Lib.hid ((XO.out.trans hc.only).trans o2)
    have HS2 := Lib.hid (HST.out.newer o2 (by simp))
    clear b1 b2 hc o2 hk hst hL HB HX HP HST
    go_quiet (fail)
    have X2' := Lib.hid (X2.out.drewN nq)
    have HS3 := Lib.hid (HS2.out.newer ((Only.refl [] w2).drewN nq) (by simp))
    clear wa wb wc wd b20 b21 X2 HS2
    obtain ⟨ls, hls⟩ : ∃ ls, 1 + 4 * y = ls := ⟨_, rfl⟩
    have l1 : 1 ≤ ls ∧ ls ≤ 65536 := by omega
    rw [hls]
    clear hls
    generalize w2.drewN nq = W0 at *
    obtain ⟨T, hT⟩ : ∃ T, topTo (l.map StaffR.v) x ls (l.map StaffR.v).length = T := ⟨_, rfl⟩
    obtain ⟨U, hU⟩ : ∃ U, botTo (l.map StaffR.v) x ls (l.map StaffR.v).length = U := ⟨_, rfl⟩
    have HPR : Hid (Proper (mids (l.map StaffR.v) x ls) T U) := Lib.hid (by rw [← hT, ← hU]; exact stack_proper HS3.out (by omega) (by omega) (by omega) (by omega))
    have HUB : Hid (-700000 ≤ U ∧ U ≤ 0) := Lib.hid (by rw [← hU]; exact stack_bot HS3.out (by omega) (by omega) (by omega) (by omega))
    have HT := Lib.hid hT
    have HU := Lib.hid hU
    clear hT hU
    go_wp2_with (first
      | (go_at_call 21; refine (Distances_ok cap HS3.out x ls (by omega) (by omega) (by omega) (by omega)).mono ?_; rintro e w1 ⟨v, rfl, hown1, o1⟩; obtain ⟨D, cd, rfl, hl, hat⟩ := own_ints hown1; have HL := Lib.hid hl; have HAT := Lib.hid hat; have HO1 := Lib.hid o1; clear hl hat hown1 o1)
      | (go_at_call 17; refine (Stack_ok cap (HS3.out.newer HO1.out (by simp)) x ls (by omega) (by omega) (by omega) (by omega)).mono ?_; rintro e w3 ⟨g, cg, rfl, hg, hgw, hm, o3⟩; rw [HT.out, HU.out, List.length_map]; have B3 := Lib.hid (Blk.new w3 24 [.slice (some ⟨g, 0, none⟩) l.length cg, .int .i64 T, .int .i64 U]); have O3 := Lib.hid (o3.alloc (.cells #[.slice (some ⟨g, 0, none⟩) l.length cg, .int .i64 T, .int .i64 U] 24)); have HM := Lib.hid (show IntsAt (w3.alloc (.cells #[.slice (some ⟨g, 0, none⟩) l.length cg, .int .i64 T, .int .i64 U] 24)) (some ⟨g, 0, none⟩) (mids (l.map StaffR.v) x ls) from fun i hi => ⟨g, 0, rfl, (by simp; omega), by rw [Nat.zero_add, World.cell?_alloc_lt _ _ ⟨g, i, none⟩ hgw, hm i (by rw [← mids_len]; exact hi), ← mids_get _ _ _ _ (by rw [← mids_len]; exact hi), getD_get hi]⟩)))
    clear hg hm hgw o3
    generalize w3.alloc (.cells #[.slice (some ⟨g, 0, none⟩) l.length cg, .int .i64 T, .int .i64 U] 24) = W3 at *
    generalize w3.heap.size = B3i at *
    have ML := Lib.hid (show (mids (l.map StaffR.v) x ls).length = l.length by rw [mids_len, List.length_map])
    have HDI := Lib.hid (show IntsAt W3 D (dists (l.map StaffR.v) x ls) from fun i hi => by
      obtain ⟨D1, hD, h1, h2, h3⟩ := HAT.out i hi
      exact ⟨D1, 0, hD, Nat.lt_of_lt_of_le h2 O3.out.size, by rw [Nat.zero_add]; exact (O3.out.cell (p := ⟨D1, i, none⟩) h2 (by simp)).trans h3⟩)
    have OW := Lib.hid ((X2'.out.trans HO1.out).trans O3.out)
    have HSW := Lib.hid (HS3.out.newer (HO1.out.trans O3.out) (by simp))
    clear HAT O3 HO1 X2' HS3
    have KEEP := Lib.hid (fun (W : World) (h : Only [] W3 W) => show W.cell? ⟨B3i, 0, none⟩ = some (.slice (some ⟨g, 0, none⟩) l.length cg) ∧ W.cell? ⟨B3i, 1, none⟩ = some (.int .i64 T) ∧ W.cell? ⟨B3i, 2, none⟩ = some (.int .i64 U) from ⟨(B3.out.only h (by simp)).cell 0, (B3.out.only h (by simp)).cell 1, (B3.out.only h (by simp)).cell 2⟩)
    have MST := Lib.hid (fun (W : World) (h : Only [] W3 W) => show Calls Try.prog 23 #[.slice (some ⟨k, 0, none⟩) l.length cap, .int .i64 x, .int .i64 ls] W fun e w' => ∃ A c, e = .returned (sysV A l.length c T U) ∧ IntsAt w' A (mids (l.map StaffR.v) x ls) ∧ Only [] W w' by
      have := mstack_any cap (HSW.out.newer h (by simp)) x ls (by omega) (by omega) (by omega) (by omega)
      unfold MStacked at this
      rw [HT.out, HU.out, List.length_map] at this
      exact this)
    have SAM := Lib.hid (fun (W : World) (h : Only [] W3 W) (A6 : Option Addr) (c6 : Nat) (hI : IntsAt W A6 (mids (l.map StaffR.v) x ls)) => show Calls Try.prog 22 #[sysV (some ⟨g, 0, none⟩) l.length cg T U, sysV A6 l.length c6 T U] W fun e w' => e = .returned (.bool true) ∧ Only [] W w' by
      have := same_any cg c6 T T U U (HM.out.only h (by simp)) hI (by rw [ML.out]; have := HSW.out.few; omega)
      rw [ML.out] at this
      refine this.mono ?_
      rintro e w' ⟨rfl, h1⟩
      exact ⟨ret_bool (by simp [sameB]), h1⟩)
    have PRP := Lib.hid (fun (W : World) (h : Only [] W3 W) => show Calls Try.prog 14 #[sysV (some ⟨g, 0, none⟩) l.length cg T U] W fun e w' => e = .returned (.bool true) ∧ Only [] W w' by
      have := mproper_any cg T U (HM.out.only h (by simp)) (by rw [ML.out]; have := HSW.out.few; omega)
      rw [ML.out] at this
      refine this.mono ?_
      rintro e w' ⟨rfl, h1⟩
      exact ⟨ret_bool (properB_true HPR.out), h1⟩)
    have CLR := Lib.hid (fun (W : World) (h : Only [] W3 W) => show Calls Try.prog 18 #[.slice (some ⟨k, 0, none⟩) l.length cap, sysV (some ⟨g, 0, none⟩) l.length cg T U, .int .i64 x] W fun e w' => e = .returned (.bool true) ∧ Only [] W w' by
      have := Clear_any cap (HSW.out.newer h (by simp)) cg T U x (HM.out.only h (by simp)) (by rw [ML.out]; have := HSW.out.few; omega)
      rw [ML.out, stack_clr HSW.out (by omega) (by omega) HPR.out] at this
      exact this)
    obtain ⟨y0, y1, y2⟩ := KEEP.out W3 (Only.refl [] W3)
    have lf := HSW.out.few
    have lp := HSW.out.pos
    have nn : (((l.length - 1 : Nat) : Int) != (l.length : Int) - 1) = false := by simp; omega
    have n1 : IntKind.i64.wrap ((l.length : Int) - 1) = (l.length : Int) - 1 := IntWalk.i64_in _ (by omega)
    go_wp2
    go_region_held3 (fun W => W.cell? ⟨B3i, 0, none⟩ = some (.slice (some ⟨g, 0, none⟩) l.length cg) ∧ W.cell? ⟨B3i, 1, none⟩ = some (.int .i64 T) ∧ W.cell? ⟨B3i, 2, none⟩ = some (.int .i64 U)) (first | exact ⟨y0, y1, y2⟩ | exact KEEP.out _ (Only.refl [] W3) | exact KEEP.out _ (Only.refl [] W3).drew | exact KEEP.out _ p4 | exact KEEP.out _ p6 | exact KEEP.out _ p7) (first
      | (go_at_call 14; refine (PRP.out _ p6).mono ?_; rintro e w7 ⟨rfl, o7⟩; have p7 := p6.trans o7)
      | (go_at_call 22; refine (SAM.out _ p4 A4 c4 hI4).mono ?_; rintro e w6 ⟨rfl, o6⟩; have p6 := p4.trans o6)
      | (go_at_call 23; refine (MST.out _ (Only.refl [] W3).drew).mono ?_; rintro e w4 ⟨A4, c4, rfl, hI4, o4⟩; have p4 : Only [] W3 w4 := ((Only.refl [] W3).drew).trans o4))
    all_goals
      have P7 := Lib.hid p7
      clear y0 y1 y2 p4 p6 p7 o4 o6 o7 hI4 MST SAM PRP nn n1
      have C0 := Lib.hid (fun (W : World) (h : Only [] W3 W) => show Calls Try.prog 25 #[.pointer (some ⟨(l[0]).sa, 0, none⟩)] W fun e w' => e = .returned (.int .i64 (ncol X)) ∧ Only [] W w' from (ncols_is ((HSW.out.newer h (by simp)).ok 0 lp).above ((HSW.out.newer h (by simp)).ok 0 lp).la).mono (fun e w' ⟨he, hw⟩ => ⟨he, hw ▸ Only.refl [] _⟩))
      have hn1 := HSW.out.npos
      have hn8 := HSW.out.nfew
      obtain ⟨nd, hnd⟩ : ∃ nd, l.length - 1 = nd := ⟨_, rfl⟩
      rw [hnd]
      have nd1 : nd + 1 ≤ l.length := by omega
      have nd2 : l.length ≤ nd + 1 := by omega
      have HL2 := Lib.hid (show nd ≤ (dists (l.map StaffR.v) x ls).length by have := HL.out; omega)
      clear hnd
      go_wp2
      go_loopw [14] (fun i wr => ∃ j : Nat, j ≤ nd ∧ i = .int .i64 j ∧ Only [] w7 wr) (fun i _ => l.length - (intOf i).toNat)
      case atStart => exact ⟨0, by omega, rfl, Only.refl _ _⟩
      case round =>
        obtain ⟨j, hj, rfl, hO⟩ := hrel
        have HO := Lib.hid hO
        by_cases hlt : j < nd
        · have N := Lib.hid (fun (i : Near [] wr) => (P7.out.trans hO).trans i.only)
          have jl : j < (dists (l.map StaffR.v) x ls).length := by have := HL2.out; omega
          obtain ⟨Db, od, rfl, hDb, hDc⟩ := HDI.out j jl
          have ed : (dists (l.map StaffR.v) x ls)[j] = dAt (l.map StaffR.v) x ls j := by simp [dists, dAt]
          have ed2 : dAt (l.map StaffR.v) x ls j = distV l[j].v l[j + 1].v x ls := by rw [dAt, getD_map (by omega), getD_map (by omega)]
          rw [ed, ed2] at hDc
          have DI := Lib.hid (fun (i : Near [] wr) => distance_any ((HSW.out.newer (N.out i) (by simp)).pair j (by omega)) hn1 hn8 x ls (by omega) (by omega) (by omega) (by omega))
          have em : (mids (l.map StaffR.v) x ls)[j]'(by have := ML.out; omega) = midTo (l.map StaffR.v) x ls j := by simp [mids]
          have em1 : (mids (l.map StaffR.v) x ls)[j + 1]'(by have := ML.out; omega) = midTo (l.map StaffR.v) x ls (j + 1) := by simp [mids]
          have d1 : midTo (l.map StaffR.v) x ls (j + 1) = midTo (l.map StaffR.v) x ls j - distV l[j].v l[j + 1].v x ls := by rw [midTo, getD_map (show j < l.length by omega), getD_map (show j + 1 < l.length by omega)]
          have rj := mid_range HSW.out (gap := x) (least := ls) (by omega) (by omega) (by omega) (by omega) j (by omega)
          have rj1 := mid_range HSW.out (gap := x) (least := ls) (by omega) (by omega) (by omega) (by omega) (j + 1) (by omega)
          have mj := fun (i : Near [] wr) => (HM.out.only (N.out i) (by simp)).at0 j (by have := ML.out; omega)
          have mj1 := fun (i : Near [] wr) => (HM.out.only (N.out i) (by simp)).at0 (j + 1) (by have := ML.out; omega)
          rw [em] at mj
          rw [em1] at mj1
          generalize midTo (l.map StaffR.v) x ls j = m0 at *
          generalize midTo (l.map StaffR.v) x ls (j + 1) = m1 at *
          generalize distV l[j].v l[j + 1].v x ls = dj at *
          have nn : (dj != m0 - m1) = false := by simp; omega
          have w0 : IntKind.i64.wrap (m0 - m1) = m0 - m1 := IntWalk.i64_in _ (by omega)
          have dc := fun (i : Near [] wr) => ((N.out i).cell (p := ⟨Db, od + j, none⟩) hDb (by simp)).trans hDc
          have k0 := fun (i : Near [] wr) => (HSW.out.newer (N.out i) (by simp)).cell j (by omega) 0 _ rfl
          have k1 := fun (i : Near [] wr) => (HSW.out.newer (N.out i) (by simp)).cell j (by omega) 1 _ rfl
          have k2 := fun (i : Near [] wr) => (HSW.out.newer (N.out i) (by simp)).cell j (by omega) 2 _ rfl
          have k3 := fun (i : Near [] wr) => (HSW.out.newer (N.out i) (by simp)).cell (j + 1) (by omega) 0 _ rfl
          have k4 := fun (i : Near [] wr) => (HSW.out.newer (N.out i) (by simp)).cell (j + 1) (by omega) 1 _ rfl
          have k5 := fun (i : Near [] wr) => (HSW.out.newer (N.out i) (by simp)).cell (j + 1) (by omega) 2 _ rfl
          have k6 := fun (i : Near [] wr) => (HSW.out.newer (N.out i) (by simp)).cell 0 (by omega) 0 _ rfl
          simp only [Nat.add_zero, Nat.zero_mul] at k0 k3 k6
          have s0 := fun (i : Near [] wr) => (KEEP.out _ (N.out i)).1
          have j0 : (0 : Int) ≤ (j : Int) := by omega
          have j1 : (j : Int) < (l.length : Int) := by omega
          have j2 : (j : Int) < (nd : Int) := by omega
          have j3 : (0 : Int) ≤ (j : Int) + 1 := by omega
          have j4 : (j : Int) + 1 < (l.length : Int) := by omega
          have j6 : IntKind.i64.wrap ((j : Int) + 1) = (j : Int) + 1 := IntWalk.i64_in _ (by omega)
          have j5 : ((j : Int) + 1).toNat = j + 1 := by omega
          clear hO hDb hDc ed ed2 em em1 d1 rj rj1
          go_wp2
          refine wp_near [] (by kernel_rfl) (by kernel_rfl) ?_
          repeat (go_big_quiet_step (first
            | (go_at_call 25; with_reducible exact near_call _ (C0.out _ (N.out _)))
            | (go_at_call 24; with_reducible exact near_call _ (DI.out _))))
          refine wpQuiet_nil ?_
          intro i
          obtain ⟨wq, pq⟩ := i
          dsimp only
          have HQ := Lib.hid (HO.out.trans pq)
          clear j5 j6 mj mj1 dc k0 k1 k2 k3 k4 k5 k6 s0 pq
          go_wp2
          go_roundw
          case rel => exact ⟨j + 1, by omega, by go_num, HQ.out⟩
          case measure => simp [intOf]; omega
        · have N := Lib.hid (fun (i : Near [] wr) => (P7.out.trans hO).trans i.only)
          have s0 := fun (i : Near [] wr) => (KEEP.out _ (N.out i)).1
          have s1 := fun (i : Near [] wr) => (KEEP.out _ (N.out i)).2.1
          have s2 := fun (i : Near [] wr) => (KEEP.out _ (N.out i)).2.2
          have hub := HUB.out
          have htr := HPR.out.top
          have e1 : IntKind.i64.wrap (T - U) = T - U := IntWalk.i64_in _ (by omega)
          have j2 : (nd : Int) ≤ (j : Int) := by omega
          clear hO
          go_wp2
          refine wp_near [] (by kernel_rfl) (by kernel_rfl) ?_
          repeat (go_big_quiet_step (first
            | (go_at_call 18; with_reducible exact near_call _ (CLR.out _ (N.out _)))
            | (go_at_call 26; with_reducible exact near_call _ (Height_any (some ⟨g, 0, none⟩) l.length cg T U (T - U) _ e1))))
          refine wpQuiet_nil ?_
          intro i
          obtain ⟨wq, pq⟩ := i
          dsimp only
          have HQ := Lib.hid (((OW.out.trans P7.out).trans HO.out).trans pq)
          clear s0 s1 s2 pq
          go_wp2
          go_ret
          exact ⟨(by first | rfl | exact ret_bool (by simp)), HQ.out⟩
  · have hx0 : min X.length 6 = 0 := by omega
    have HX0 := Lib.hid hx0
    clear hx0
    go_enter Try.func6, Try.ntmps6
    go_wp2_with (first
      | (have _t := tk; go_at_call 12; refine (known_any _).mono ?_; rintro e w3 ⟨rfl, o3⟩)
      | (go_at_call 16; refine (staves_any A X cx B P cp HX.out HP.out).mono ?_; rintro e w1 ⟨v, l, rfl, hc⟩; obtain ⟨A1, c1, rfl⟩ := own_slice hc.own; rw [HX0.out]; have b1 := HB.out.only hc.only (by simp))
      | (go_at_call 12; refine (known_any _).mono ?_; rintro e w2 ⟨rfl, o2⟩; have tk := True.intro))
    go_ret
    exact ⟨rfl, ((XO.out.trans hc.only).trans o2).trans o3⟩
end Go.Proofs.Yticpophdoiljfaa
