/- DERIVED. SkylineClones: the walk. -/
import Derived.Test.YtblcgfmgfepajaaClone
import Derived.Test.YtblcgfmgfepajaaNil
import Derived.Test.YtblcgfmgfepajaaPlays
namespace Go.Proofs.Ytblcgfmgfepajaa
open Go.RowKit

theorem eqB_comm (a b : Int) (h h' : List Int) : eqB b a h' h = eqB a b h h' := by
  unfold eqB
  rw [decide_eq_decide]
  exact ⟨fun ⟨x, y⟩ => ⟨x.symm, y.symm⟩, fun ⟨x, y⟩ => ⟨x.symm, y.symm⟩⟩

set_option maxRecDepth 20000 in
set_option maxHeartbeats 4000000 in
theorem clones_any (bl : Bool) (c hh : Int) (hc0 : 0 ≤ c) (hc1 : c ≤ 255) (hr : -32768 ≤ hh ∧ hh ≤ 32767) (bl2 : Bool) (c2 hh2 : Int) (hc02 : 0 ≤ c2) (hc12 : c2 ≤ 255) (hr2 : -32768 ≤ hh2 ∧ hh2 ≤ 32767) (w : World) (A : Option Addr) (cp : Nat) (ops : List OpR) (ho : OpsAt w A ops) :
    Calls Try.prog 12 #[startV bl c hh, startV bl2 c2 hh2, .slice A ops.length cp] w
      fun e w' => e = .returned (.bool true) ∧ Only [] w w' := by
  generalize hside : (if bl then (-1 : Int) else 1) = side
  generalize hH : playTo side (newH side (1 + c.toNat % 40) hh) ops 20 = H1
  generalize hside2 : (if bl2 then (-1 : Int) else 1) = side'
  generalize hH2 : playTo side' (newH side' (1 + c2.toNat % 40) hh2) ops 20 = H2
  have HP1 := Lib.hid (fun W hW => play_any bl c hh hc0 hc1 hr W A cp ops hW)
  have HP2 := Lib.hid (fun W hW => play_any bl2 c2 hh2 hc02 hc12 hr2 W A cp ops hW)
  rw [hside, hH] at HP1
  rw [hside2, hH2] at HP2
  clear hside hH hside2 hH2
  have HO := Lib.hid ho
  have OB := Lib.hid (((Only.refl [] w).alloc (.cells #[.bool bl, .int .u8 c, .int .i16 hh] 35)).alloc (.cells #[.bool bl2, .int .u8 c2, .int .i16 hh2] 35))
  have SS := Lib.hid ((Blk.new w 35 [.bool bl, .int .u8 c, .int .i16 hh]).alloc (.cells #[.bool bl2, .int .u8 c2, .int .i16 hh2] 35))
  have SS2 : Hid (Blk ((w.alloc (.cells #[.bool bl, .int .u8 c, .int .i16 hh] 35)).alloc (.cells #[.bool bl2, .int .u8 c2, .int .i16 hh2] 35)) (w.heap.size + 1) 35 [.bool bl2, .int .u8 c2, .int .i16 hh2]) := Lib.hid (by
    have := Blk.new (w.alloc (.cells #[.bool bl, .int .u8 c, .int .i16 hh] 35)) 35 [.bool bl2, .int .u8 c2, .int .i16 hh2]
    rw [World.size_alloc] at this
    exact this)
  clear ho
  go_enter Try.func12, Try.ntmps12
  go_wp2_with (first
    | (go_at_call 13; refine (known_any _).mono ?_; rintro e w1 ⟨rfl, ho1⟩; have sB := SS.out.only ho1 (by simp); have sB0 := sB.cell 0; have sB1 := sB.cell 1; have sB2 := sB.cell 2; simp at sB0 sB1 sB2; have sC := SS2.out.only ho1 (by simp))
    | (have _T := T; go_at_call 23; refine (HP2.out _ (HO.out.only ((OB.out.trans ho1).trans ho2))).mono ?_; rintro e w3 ⟨s', g', m', k', cap', sp', rfl, hs', hg', hm', hk', hb', ho3⟩)
    | (go_at_call 23; refine (HP1.out _ (HO.out.only (OB.out.trans ho1))).mono ?_; rintro e w2 ⟨s, g, m, k, cap, sp, rfl, hs, hg, hm, hk, hb, ho2⟩; have T := sC.only ho2 (by simp); have t0 := T.cell 0; have t1 := T.cell 1; have t2 := T.cell 2; simp at t0 t1 t2))
  have X3 := ((OB.out.trans ho1).trans ho2).trans ho3
  have b1 := hb.only ho3 (by simp) (by simp) (by simp) (by simp)
  have b2 := hb'
  have l1 := b1.sky.head.lt
  have l2 := b1.sky.row.lt
  have l3 := b1.mod.head.lt
  have l4 := b1.mod.row.lt
  clear HP1 HP2 HO OB SS SS2 sB sC sB0 sB1 sB2 t0 t1 t2 ho1 ho2 ho3 hb hb' hs hg hm hk hs' hg' hm' hk' _T
  have f1 := b1.mod.few
  have f2 := b2.mod.few
  have d0 := b1.mod.side0
  have d1 := b2.mod.side0
  have d2 := b1.mod.h0
  have d3 := b2.mod.h0
  have HE3 := Lib.hid (show eqB side side H1 H1 = true by simp [eqB])
  by_cases hsd : side = side'
  · subst hsd
    have e0 : (side == side) = true := by simp
    by_cases hl : H1.length = H2.length
    · have e1 : ((H1.length : Int) == (H2.length : Int)) = true := by simp; omega
      go_wp2
      go_quiet (fail)
      go_wp2
      go_loopw [11, 12] (fun sm i wr => ∃ (j n : Nat) (b : Bool), j ≤ H1.length ∧ sm = .bool b ∧ i = .int .i64 j ∧ wr = w3.drewN n ∧ (b = true → ∀ q (h1 : q < H1.length) (h2 : q < H2.length), q < j → H1[q] = H2[q]) ∧ (b = false → eqB side side H1 H2 = false)) (fun _ i _ => H1.length - (intOf i).toNat)
      case atStart => exact ⟨0, _, true, Nat.zero_le _, rfl, rfl, rfl, fun _ q _ _ hq => absurd hq (by omega), fun h => by cases h⟩
      case round =>
        obtain ⟨j, n, b, hj, rfl, rfl, rfl, hT, hF⟩ := hrel
        have HT := Lib.hid hT
        have HF := Lib.hid hF
        clear hT hF
        cases b
        · have HE1 := Lib.hid (HF.out rfl)
          have HE2 := Lib.hid ((eqB_comm side side H1 H2).trans HE1.out)
          by_cases hlt : (j : Int) < (H1.length : Int)
          · go_wp2_with (first
              | (have _f := p5; go_at_call 35; refine (EqualR_nil s _).mono ?_; rintro e x6 ⟨rfl, c9⟩)
              | (have _f := p4; go_at_call 35; refine (EqualL_nil s _).mono ?_; rintro e x5 ⟨rfl, c8⟩; have p5 := c8)
              | (have _f := p3; go_at_call 35; refine (Equal_nil _).mono ?_; rintro e x4 ⟨rfl, c7⟩; have p4 := c7)
              | (have _f := p2; go_at_call 35; refine (Equal_any (B1.sky.gky.drewN _) (C4.drewN _)).mono ?_; rintro e x3 ⟨rfl, n3, rfl⟩; rw [HE3.out]; have p3 := n3)
              | (have _f := p1; go_at_call 35; refine (Equal_any (B2.sky.gky.drewN _) (B1.sky.gky.drewN _)).mono ?_; rintro e x2 ⟨rfl, n2, rfl⟩; rw [HE2.out]; have p2 := n2)
              | (go_at_call 35; refine (Equal_any B1.sky.gky B2.sky.gky).mono ?_; rintro e x1 ⟨rfl, n1, rfl⟩; rw [HE1.out]; have p1 := n1)
              | (have _f := C4; go_at_call 32; refine (CloneN_nil _).mono ?_; rintro e x9 ⟨rfl, c6⟩)
              | (go_at_call 32; refine (Clone_any (b1.sky.drewN _).gky).mono ?_; rintro e w4 ⟨sc, gc, capc, spc, rfl, hsc, hgc, C4, o4⟩; have B1 := (b1.drewN _).only o4 (by simp) (by simp) (by simp) (by simp); have B2 := (b2.drewN _).only o4 (by simp) (by simp) (by simp) (by simp); have hgc' : w3.heap.size ≤ gc := hgc)
              | (have _f := B5; go_at_call 21; refine (Raise_nil _ _ _ _).mono ?_; rintro e w9 ⟨rfl, c1⟩)
              | (go_at_call 21; refine (gRaise_any (C4.drewN _) _ _ _).mono ?_; rintro e w5 ⟨rfl, C5, o5⟩; have B5 := (B1.drewN _).only o5 (by simp; omega) (by simp; omega) (by simp; omega) (by simp; omega))
              | (have _f := B5; go_at_call 19; refine (Columns_nil _).mono ?_; rintro e wb ⟨rfl, c4⟩)
              | (go_at_call 19; refine (gncols_any (C4.drewN _)).mono ?_; rintro e x7 ⟨rfl, rfl⟩)
              | (have _f := B5; go_at_call 18; refine (Side_nil _).mono ?_; rintro e wa ⟨rfl, c3⟩)
              | (go_at_call 18; refine (gside_any (C4.drewN _)).mono ?_; rintro e x8 ⟨rfl, rfl⟩)
              | (go_at_call 17; refine (At_nil _ _).mono ?_; rintro e w6 ⟨rfl, a1⟩)
              | (go_at_call 22; refine (Place_nil _ _ _ _ _ _).mono ?_; rintro e w7 ⟨rfl, a2⟩)
              | (go_at_call 30; refine (Distance_nil _ _ _).mono ?_; rintro e w8 ⟨rfl, a3⟩; have B8 := ((B5.only a1 (by simp) (by simp) (by simp) (by simp)).only a2 (by simp) (by simp) (by simp) (by simp)).only a3 (by simp) (by simp) (by simp) (by simp))
              | (go_at_call 26; refine (is_any B8).mono ?_; rintro e x9 ⟨rfl, nq2, rfl⟩)
              | (go_at_call 33; refine (Merge_nil _ _ _).mono ?_; rintro e wc ⟨rfl, c2⟩)
              | (go_at_call 29; refine (Steps_nil _).mono ?_; rintro e wd ⟨rfl, c5⟩)
              | (go_at_call 24; refine (Touches_nil _ _ _ _ _ _ _).mono ?_; rintro e we ⟨rfl, d1⟩))
            have X5 : Only [] w w5 := (((((X3.drewN _).trans o4).drewN _).more (T := [gc]) (by simp)).trans o5).less fun i hi hl => by
              have := X3.size
              simp at hi
              omega
            go_ret
            exact ⟨rfl, (((((((((((((X5.trans a1).trans a2).trans a3).drewN _).trans c1).trans c2).trans c3).trans c4).trans c5).trans c6).trans c7).trans c8).trans c9).trans d1⟩
          · go_wp2_with (first
              | (have _f := p5; go_at_call 35; refine (EqualR_nil s _).mono ?_; rintro e x6 ⟨rfl, c9⟩)
              | (have _f := p4; go_at_call 35; refine (EqualL_nil s _).mono ?_; rintro e x5 ⟨rfl, c8⟩; have p5 := c8)
              | (have _f := p3; go_at_call 35; refine (Equal_nil _).mono ?_; rintro e x4 ⟨rfl, c7⟩; have p4 := c7)
              | (have _f := p2; go_at_call 35; refine (Equal_any (B1.sky.gky.drewN _) (C4.drewN _)).mono ?_; rintro e x3 ⟨rfl, n3, rfl⟩; rw [HE3.out]; have p3 := n3)
              | (have _f := p1; go_at_call 35; refine (Equal_any (B2.sky.gky.drewN _) (B1.sky.gky.drewN _)).mono ?_; rintro e x2 ⟨rfl, n2, rfl⟩; rw [HE2.out]; have p2 := n2)
              | (go_at_call 35; refine (Equal_any B1.sky.gky B2.sky.gky).mono ?_; rintro e x1 ⟨rfl, n1, rfl⟩; rw [HE1.out]; have p1 := n1)
              | (have _f := C4; go_at_call 32; refine (CloneN_nil _).mono ?_; rintro e x9 ⟨rfl, c6⟩)
              | (go_at_call 32; refine (Clone_any (b1.sky.drewN _).gky).mono ?_; rintro e w4 ⟨sc, gc, capc, spc, rfl, hsc, hgc, C4, o4⟩; have B1 := (b1.drewN _).only o4 (by simp) (by simp) (by simp) (by simp); have B2 := (b2.drewN _).only o4 (by simp) (by simp) (by simp) (by simp); have hgc' : w3.heap.size ≤ gc := hgc)
              | (have _f := B5; go_at_call 21; refine (Raise_nil _ _ _ _).mono ?_; rintro e w9 ⟨rfl, c1⟩)
              | (go_at_call 21; refine (gRaise_any (C4.drewN _) _ _ _).mono ?_; rintro e w5 ⟨rfl, C5, o5⟩; have B5 := (B1.drewN _).only o5 (by simp; omega) (by simp; omega) (by simp; omega) (by simp; omega))
              | (have _f := B5; go_at_call 19; refine (Columns_nil _).mono ?_; rintro e wb ⟨rfl, c4⟩)
              | (go_at_call 19; refine (gncols_any (C4.drewN _)).mono ?_; rintro e x7 ⟨rfl, rfl⟩)
              | (have _f := B5; go_at_call 18; refine (Side_nil _).mono ?_; rintro e wa ⟨rfl, c3⟩)
              | (go_at_call 18; refine (gside_any (C4.drewN _)).mono ?_; rintro e x8 ⟨rfl, rfl⟩)
              | (go_at_call 17; refine (At_nil _ _).mono ?_; rintro e w6 ⟨rfl, a1⟩)
              | (go_at_call 22; refine (Place_nil _ _ _ _ _ _).mono ?_; rintro e w7 ⟨rfl, a2⟩)
              | (go_at_call 30; refine (Distance_nil _ _ _).mono ?_; rintro e w8 ⟨rfl, a3⟩; have B8 := ((B5.only a1 (by simp) (by simp) (by simp) (by simp)).only a2 (by simp) (by simp) (by simp) (by simp)).only a3 (by simp) (by simp) (by simp) (by simp))
              | (go_at_call 26; refine (is_any B8).mono ?_; rintro e x9 ⟨rfl, nq2, rfl⟩)
              | (go_at_call 33; refine (Merge_nil _ _ _).mono ?_; rintro e wc ⟨rfl, c2⟩)
              | (go_at_call 29; refine (Steps_nil _).mono ?_; rintro e wd ⟨rfl, c5⟩)
              | (go_at_call 24; refine (Touches_nil _ _ _ _ _ _ _).mono ?_; rintro e we ⟨rfl, d1⟩))
            have X5 : Only [] w w5 := (((((X3.drewN _).trans o4).drewN _).more (T := [gc]) (by simp)).trans o5).less fun i hi hl => by
              have := X3.size
              simp at hi
              omega
            go_ret
            exact ⟨rfl, (((((((((((((X5.trans a1).trans a2).trans a3).drewN _).trans c1).trans c2).trans c3).trans c4).trans c5).trans c6).trans c7).trans c8).trans c9).trans d1⟩
        · by_cases hlt : j < H1.length
          · have hlt' : j < H2.length := by omega
            have p0 := b1.mod.at_ hlt
            have p1 := b2.mod.at_ hlt'
            have j0 : (0 : Int) ≤ (j : Int) := by omega
            have j1 : (j : Int) < (H1.length : Int) := by omega
            have j2 : (j : Int) < (H2.length : Int) := by omega
            obtain ⟨eb, heb⟩ : ∃ eb, (side * H1[j] == side * H2[j]) = eb := ⟨_, rfl⟩
            have HEB : Hid (eb = decide (H1[j] = H2[j])) := Lib.hid (by
              rw [← heb]
              have hs := b1.mod.sides
              by_cases h : H1[j] = H2[j]
              · simp [h]
              · have : side * H1[j] ≠ side * H2[j] := by rcases hs with hh | hh <;> rw [hh] <;> omega
                simp [h, this])
            go_wp2
            go_quiet (fail)
            go_wp2
            go_roundw
            case rel =>
              refine ⟨j + 1, _, eb, by omega, rfl, by go_num, rfl, fun h q h1 h2 hq => ?_, fun h => ?_⟩
              · have h3 := HEB.out
                rw [h] at h3
                by_cases e : q = j
                · subst e; simpa using h3.symm
                · exact HT.out (by first | rfl | trivial) q h1 h2 (by omega)
              · have h3 := HEB.out
                rw [h] at h3
                simp only [eqB, decide_eq_false_iff_not]
                rintro ⟨_, e⟩
                subst e
                simp at h3
            case measure => simp [intOf]; omega
          · obtain rfl : j = H1.length := by omega
            have HE1 := Lib.hid (show eqB side side H1 H2 = true by
              simp only [eqB, decide_eq_true_eq]
              exact ⟨trivial, List.ext_getElem hl fun q h1 h2 => HT.out (by first | rfl | trivial) q h1 h2 h1⟩)
            have HE2 := Lib.hid ((eqB_comm side side H1 H2).trans HE1.out)
            have z0 : ¬ (H1.length : Int) < (H1.length : Int) := by omega
            go_wp2_with (first
              | (have _f := p5; go_at_call 35; refine (EqualR_nil s _).mono ?_; rintro e x6 ⟨rfl, c9⟩)
              | (have _f := p4; go_at_call 35; refine (EqualL_nil s _).mono ?_; rintro e x5 ⟨rfl, c8⟩; have p5 := c8)
              | (have _f := p3; go_at_call 35; refine (Equal_nil _).mono ?_; rintro e x4 ⟨rfl, c7⟩; have p4 := c7)
              | (have _f := p2; go_at_call 35; refine (Equal_any (B1.sky.gky.drewN _) (C4.drewN _)).mono ?_; rintro e x3 ⟨rfl, n3, rfl⟩; rw [HE3.out]; have p3 := n3)
              | (have _f := p1; go_at_call 35; refine (Equal_any (B2.sky.gky.drewN _) (B1.sky.gky.drewN _)).mono ?_; rintro e x2 ⟨rfl, n2, rfl⟩; rw [HE2.out]; have p2 := n2)
              | (go_at_call 35; refine (Equal_any B1.sky.gky B2.sky.gky).mono ?_; rintro e x1 ⟨rfl, n1, rfl⟩; rw [HE1.out]; have p1 := n1)
              | (have _f := C4; go_at_call 32; refine (CloneN_nil _).mono ?_; rintro e x9 ⟨rfl, c6⟩)
              | (go_at_call 32; refine (Clone_any (b1.sky.drewN _).gky).mono ?_; rintro e w4 ⟨sc, gc, capc, spc, rfl, hsc, hgc, C4, o4⟩; have B1 := (b1.drewN _).only o4 (by simp) (by simp) (by simp) (by simp); have B2 := (b2.drewN _).only o4 (by simp) (by simp) (by simp) (by simp); have hgc' : w3.heap.size ≤ gc := hgc)
              | (have _f := B5; go_at_call 21; refine (Raise_nil _ _ _ _).mono ?_; rintro e w9 ⟨rfl, c1⟩)
              | (go_at_call 21; refine (gRaise_any (C4.drewN _) _ _ _).mono ?_; rintro e w5 ⟨rfl, C5, o5⟩; have B5 := (B1.drewN _).only o5 (by simp; omega) (by simp; omega) (by simp; omega) (by simp; omega))
              | (have _f := B5; go_at_call 19; refine (Columns_nil _).mono ?_; rintro e wb ⟨rfl, c4⟩)
              | (go_at_call 19; refine (gncols_any (C4.drewN _)).mono ?_; rintro e x7 ⟨rfl, rfl⟩)
              | (have _f := B5; go_at_call 18; refine (Side_nil _).mono ?_; rintro e wa ⟨rfl, c3⟩)
              | (go_at_call 18; refine (gside_any (C4.drewN _)).mono ?_; rintro e x8 ⟨rfl, rfl⟩)
              | (go_at_call 17; refine (At_nil _ _).mono ?_; rintro e w6 ⟨rfl, a1⟩)
              | (go_at_call 22; refine (Place_nil _ _ _ _ _ _).mono ?_; rintro e w7 ⟨rfl, a2⟩)
              | (go_at_call 30; refine (Distance_nil _ _ _).mono ?_; rintro e w8 ⟨rfl, a3⟩; have B8 := ((B5.only a1 (by simp) (by simp) (by simp) (by simp)).only a2 (by simp) (by simp) (by simp) (by simp)).only a3 (by simp) (by simp) (by simp) (by simp))
              | (go_at_call 26; refine (is_any B8).mono ?_; rintro e x9 ⟨rfl, nq2, rfl⟩)
              | (go_at_call 33; refine (Merge_nil _ _ _).mono ?_; rintro e wc ⟨rfl, c2⟩)
              | (go_at_call 29; refine (Steps_nil _).mono ?_; rintro e wd ⟨rfl, c5⟩)
              | (go_at_call 24; refine (Touches_nil _ _ _ _ _ _ _).mono ?_; rintro e we ⟨rfl, d1⟩))
            have X5 : Only [] w w5 := (((((X3.drewN _).trans o4).drewN _).more (T := [gc]) (by simp)).trans o5).less fun i hi hl => by
              have := X3.size
              simp at hi
              omega
            go_ret
            exact ⟨rfl, (((((((((((((X5.trans a1).trans a2).trans a3).drewN _).trans c1).trans c2).trans c3).trans c4).trans c5).trans c6).trans c7).trans c8).trans c9).trans d1⟩
    · have e1 : ((H1.length : Int) == (H2.length : Int)) = false := by simp; omega
      have HE1 := Lib.hid (show eqB side side H1 H2 = false by
        simp only [eqB, decide_eq_false_iff_not]
        rintro ⟨_, e⟩
        subst e
        exact hl rfl)
      have HE2 := Lib.hid ((eqB_comm side side H1 H2).trans HE1.out)
      go_wp2
      go_quiet (fail)
      go_wp2
      go_loopw [11, 12] (fun sm i wr => ∃ n : Nat, sm = .bool false ∧ i = .int .i64 0 ∧ wr = w3.drewN n) (fun _ _ _ => 0)
      case atStart => exact ⟨_, rfl, rfl, rfl⟩
      case round =>
        obtain ⟨n, rfl, rfl, rfl⟩ := hrel
        have z0 : (0 : Int) < (H1.length : Int) := by have := b1.mod.pos; omega
        go_wp2_with (first
          | (have _f := p5; go_at_call 35; refine (EqualR_nil s _).mono ?_; rintro e x6 ⟨rfl, c9⟩)
          | (have _f := p4; go_at_call 35; refine (EqualL_nil s _).mono ?_; rintro e x5 ⟨rfl, c8⟩; have p5 := c8)
          | (have _f := p3; go_at_call 35; refine (Equal_nil _).mono ?_; rintro e x4 ⟨rfl, c7⟩; have p4 := c7)
          | (have _f := p2; go_at_call 35; refine (Equal_any (B1.sky.gky.drewN _) (C4.drewN _)).mono ?_; rintro e x3 ⟨rfl, n3, rfl⟩; rw [HE3.out]; have p3 := n3)
          | (have _f := p1; go_at_call 35; refine (Equal_any (B2.sky.gky.drewN _) (B1.sky.gky.drewN _)).mono ?_; rintro e x2 ⟨rfl, n2, rfl⟩; rw [HE2.out]; have p2 := n2)
          | (go_at_call 35; refine (Equal_any B1.sky.gky B2.sky.gky).mono ?_; rintro e x1 ⟨rfl, n1, rfl⟩; rw [HE1.out]; have p1 := n1)
          | (have _f := C4; go_at_call 32; refine (CloneN_nil _).mono ?_; rintro e x9 ⟨rfl, c6⟩)
          | (go_at_call 32; refine (Clone_any (b1.sky.drewN _).gky).mono ?_; rintro e w4 ⟨sc, gc, capc, spc, rfl, hsc, hgc, C4, o4⟩; have B1 := (b1.drewN _).only o4 (by simp) (by simp) (by simp) (by simp); have B2 := (b2.drewN _).only o4 (by simp) (by simp) (by simp) (by simp); have hgc' : w3.heap.size ≤ gc := hgc)
          | (have _f := B5; go_at_call 21; refine (Raise_nil _ _ _ _).mono ?_; rintro e w9 ⟨rfl, c1⟩)
          | (go_at_call 21; refine (gRaise_any (C4.drewN _) _ _ _).mono ?_; rintro e w5 ⟨rfl, C5, o5⟩; have B5 := (B1.drewN _).only o5 (by simp; omega) (by simp; omega) (by simp; omega) (by simp; omega))
          | (have _f := B5; go_at_call 19; refine (Columns_nil _).mono ?_; rintro e wb ⟨rfl, c4⟩)
          | (go_at_call 19; refine (gncols_any (C4.drewN _)).mono ?_; rintro e x7 ⟨rfl, rfl⟩)
          | (have _f := B5; go_at_call 18; refine (Side_nil _).mono ?_; rintro e wa ⟨rfl, c3⟩)
          | (go_at_call 18; refine (gside_any (C4.drewN _)).mono ?_; rintro e x8 ⟨rfl, rfl⟩)
          | (go_at_call 17; refine (At_nil _ _).mono ?_; rintro e w6 ⟨rfl, a1⟩)
          | (go_at_call 22; refine (Place_nil _ _ _ _ _ _).mono ?_; rintro e w7 ⟨rfl, a2⟩)
          | (go_at_call 30; refine (Distance_nil _ _ _).mono ?_; rintro e w8 ⟨rfl, a3⟩; have B8 := ((B5.only a1 (by simp) (by simp) (by simp) (by simp)).only a2 (by simp) (by simp) (by simp) (by simp)).only a3 (by simp) (by simp) (by simp) (by simp))
          | (go_at_call 26; refine (is_any B8).mono ?_; rintro e x9 ⟨rfl, nq2, rfl⟩)
          | (go_at_call 33; refine (Merge_nil _ _ _).mono ?_; rintro e wc ⟨rfl, c2⟩)
          | (go_at_call 29; refine (Steps_nil _).mono ?_; rintro e wd ⟨rfl, c5⟩)
          | (go_at_call 24; refine (Touches_nil _ _ _ _ _ _ _).mono ?_; rintro e we ⟨rfl, d1⟩))
        have X5 : Only [] w w5 := (((((X3.drewN _).trans o4).drewN _).more (T := [gc]) (by simp)).trans o5).less fun i hi hl => by
          have := X3.size
          simp at hi
          omega
        go_ret
        exact ⟨rfl, (((((((((((((X5.trans a1).trans a2).trans a3).drewN _).trans c1).trans c2).trans c3).trans c4).trans c5).trans c6).trans c7).trans c8).trans c9).trans d1⟩
  · have e0 : (side == side') = false := by simpa using hsd
    have HE1 := Lib.hid (show eqB side side' H1 H2 = false by simp [eqB, hsd])
    have HE2 := Lib.hid ((eqB_comm side side' H1 H2).trans HE1.out)
    clear hsd
    go_wp2
    go_quiet (fail)
    go_wp2
    go_loopw [11, 12] (fun sm i wr => ∃ n : Nat, sm = .bool false ∧ i = .int .i64 0 ∧ wr = w3.drewN n) (fun _ _ _ => 0)
    case atStart => exact ⟨_, rfl, rfl, rfl⟩
    case round =>
      obtain ⟨n, rfl, rfl, rfl⟩ := hrel
      have z0 : (0 : Int) < (H1.length : Int) := by have := b1.mod.pos; omega
      go_wp2_with (first
        | (have _f := p5; go_at_call 35; refine (EqualR_nil s _).mono ?_; rintro e x6 ⟨rfl, c9⟩)
        | (have _f := p4; go_at_call 35; refine (EqualL_nil s _).mono ?_; rintro e x5 ⟨rfl, c8⟩; have p5 := c8)
        | (have _f := p3; go_at_call 35; refine (Equal_nil _).mono ?_; rintro e x4 ⟨rfl, c7⟩; have p4 := c7)
        | (have _f := p2; go_at_call 35; refine (Equal_any (B1.sky.gky.drewN _) (C4.drewN _)).mono ?_; rintro e x3 ⟨rfl, n3, rfl⟩; rw [HE3.out]; have p3 := n3)
        | (have _f := p1; go_at_call 35; refine (Equal_any (B2.sky.gky.drewN _) (B1.sky.gky.drewN _)).mono ?_; rintro e x2 ⟨rfl, n2, rfl⟩; rw [HE2.out]; have p2 := n2)
        | (go_at_call 35; refine (Equal_any B1.sky.gky B2.sky.gky).mono ?_; rintro e x1 ⟨rfl, n1, rfl⟩; rw [HE1.out]; have p1 := n1)
        | (have _f := C4; go_at_call 32; refine (CloneN_nil _).mono ?_; rintro e x9 ⟨rfl, c6⟩)
        | (go_at_call 32; refine (Clone_any (b1.sky.drewN _).gky).mono ?_; rintro e w4 ⟨sc, gc, capc, spc, rfl, hsc, hgc, C4, o4⟩; have B1 := (b1.drewN _).only o4 (by simp) (by simp) (by simp) (by simp); have B2 := (b2.drewN _).only o4 (by simp) (by simp) (by simp) (by simp); have hgc' : w3.heap.size ≤ gc := hgc)
        | (have _f := B5; go_at_call 21; refine (Raise_nil _ _ _ _).mono ?_; rintro e w9 ⟨rfl, c1⟩)
        | (go_at_call 21; refine (gRaise_any (C4.drewN _) _ _ _).mono ?_; rintro e w5 ⟨rfl, C5, o5⟩; have B5 := (B1.drewN _).only o5 (by simp; omega) (by simp; omega) (by simp; omega) (by simp; omega))
        | (have _f := B5; go_at_call 19; refine (Columns_nil _).mono ?_; rintro e wb ⟨rfl, c4⟩)
        | (go_at_call 19; refine (gncols_any (C4.drewN _)).mono ?_; rintro e x7 ⟨rfl, rfl⟩)
        | (have _f := B5; go_at_call 18; refine (Side_nil _).mono ?_; rintro e wa ⟨rfl, c3⟩)
        | (go_at_call 18; refine (gside_any (C4.drewN _)).mono ?_; rintro e x8 ⟨rfl, rfl⟩)
        | (go_at_call 17; refine (At_nil _ _).mono ?_; rintro e w6 ⟨rfl, a1⟩)
        | (go_at_call 22; refine (Place_nil _ _ _ _ _ _).mono ?_; rintro e w7 ⟨rfl, a2⟩)
        | (go_at_call 30; refine (Distance_nil _ _ _).mono ?_; rintro e w8 ⟨rfl, a3⟩; have B8 := ((B5.only a1 (by simp) (by simp) (by simp) (by simp)).only a2 (by simp) (by simp) (by simp) (by simp)).only a3 (by simp) (by simp) (by simp) (by simp))
        | (go_at_call 26; refine (is_any B8).mono ?_; rintro e x9 ⟨rfl, nq2, rfl⟩)
        | (go_at_call 33; refine (Merge_nil _ _ _).mono ?_; rintro e wc ⟨rfl, c2⟩)
        | (go_at_call 29; refine (Steps_nil _).mono ?_; rintro e wd ⟨rfl, c5⟩)
        | (go_at_call 24; refine (Touches_nil _ _ _ _ _ _ _).mono ?_; rintro e we ⟨rfl, d1⟩))
      have X5 : Only [] w w5 := (((((X3.drewN _).trans o4).drewN _).more (T := [gc]) (by simp)).trans o5).less fun i hi hl => by
        have := X3.size
        simp at hi
        omega
      go_ret
      exact ⟨rfl, (((((((((((((X5.trans a1).trans a2).trans a3).drewN _).trans c1).trans c2).trans c3).trans c4).trans c5).trans c6).trans c7).trans c8).trans c9).trans d1⟩
end Go.Proofs.Ytblcgfmgfepajaa
