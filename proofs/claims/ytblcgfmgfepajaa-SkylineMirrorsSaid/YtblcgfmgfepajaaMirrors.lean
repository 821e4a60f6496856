/- DERIVED. SkylineMirrors: the walk. -/
import Derived.Test.YtblcgfmgfepajaaPlays
import Derived.Test.YtblcgfmgfepajaaOpsW
import Derived.Deep.RegionHeld3
import Derived.Deep.DrawnRows
namespace Go.Proofs.Ytblcgfmgfepajaa
open Go.RowKit
attribute [local go_sem ↓] Go.wp_at_zero Go.wp_at_succ

theorem okB_neg (v : Int) : okB (-v) = okB v := by unfold okB; rw [decide_eq_decide]; omega
theorem raiseE_neg (h : List Int) (a b v : Int) : raiseE h a b (-v) = raiseE h a b v := by simp only [raiseE, okB_neg]
theorem raiseH_neg (h : List Int) (a b v : Int) : raiseH (-1) h a b (-v) = raiseH 1 h a b v := by
  simp only [raiseH, okB_neg]
  rw [show -1 * -v = 1 * v by omega]
theorem edge_neg (h : List Int) (a b v gap : Int) : edgeOf (-1) h a b (-v) gap = edgeOf 1 h a b v gap := by
  unfold edgeOf mostV
  split <;> omega
theorem placeE_neg (h : List Int) (a b v high gap : Int) : placeE (-1) h a b (-v) high gap = placeE 1 h a b v high gap := by simp only [placeE, okB_neg, edge_neg]
theorem placeV_neg (h : List Int) (a b v high gap : Int) : placeV (-1) h a b (-v) high gap = -placeV 1 h a b v high gap := by
  simp only [placeV, placeE_neg, edge_neg]
  split <;> omega
theorem placeH_neg (h : List Int) (a b v high gap : Int) : placeH (-1) h a b (-v) high gap = placeH 1 h a b v high gap := by simp only [placeH, placeE_neg, edge_neg]
theorem newH_neg (n : Nat) (v : Int) : newH (-1) n (-v) = newH 1 n v := by
  unfold newH
  rw [show -1 * -v = 1 * v by omega]
theorem placeV_range {h : List Int} (hl : ∀ x ∈ h, -1048576 ≤ x ∧ x ≤ 1048576) (a b v high gap : Int) : -4194304 ≤ placeV 1 h a b v high gap ∧ placeV 1 h a b v high gap ≤ 4194304 := by
  unfold placeV
  split
  · rename_i h0
    unfold placeE at h0
    split at h0
    · rename_i h1
      obtain ⟨-, h2, h3, h4⟩ := h1
      have e2 := okB_iff.1 h2
      have e3 := sizeB_iff.1 h3
      have e4 := sizeB_iff.1 h4
      have := mostV_range (.inl rfl) hl a b
      unfold edgeOf
      omega
    · omega
  · omega

/-- The two skylines. -/
structure Mir (w0 w : World) (s g s' g' : Nat) (h : List Int) : Prop where
  up : Sky w s g 1 h
  dn : Sky w s' g' (-1) h
  sg : s ≠ g'
  gs : g ≠ s'
  gg : g ≠ g'
  base : w0.heap.size ≤ g ∧ w0.heap.size ≤ g'
  only : Only [] w0 w

theorem Mir.raise {w0 w w1 w2 : World} {s g s' g' : Nat} {h h1 : List Int} (hm : Mir w0 w s g s' g' h) (h1' : Sky w1 s g 1 h1) (o1 : Only [g] w w1) (h2' : Sky w2 s' g' (-1) h1) (o2 : Only [g'] w1 w2) : Mir w0 w2 s g s' g' h1 := by
  have hb := hm.base
  refine ⟨h1'.only o2 (by simpa using hm.sg) (by simpa using hm.gg), h2', hm.sg, hm.gs, hm.gg, hm.base, ?_⟩
  refine (((hm.only.more (T := [g, g']) (by simp)).trans (o1.more (by simp))).trans (o2.more (by simp))).less fun i hi hl => ?_
  simp at hi
  omega
theorem Mir.drew {w0 w : World} {s g s' g' : Nat} {h : List Int} (hm : Mir w0 w s g s' g' h) : Mir w0 w.drew s g s' g' h :=
  ⟨hm.up.drew, hm.dn.drew, hm.sg, hm.gs, hm.gg, hm.base, hm.only.drew⟩
theorem Mir.alloc {w0 w : World} {s g s' g' : Nat} {h : List Int} (hm : Mir w0 w s g s' g' h) (o : Obj) : Mir w0 (w.alloc o) s g s' g' h :=
  ⟨hm.up.alloc o, hm.dn.alloc o, hm.sg, hm.gs, hm.gg, hm.base, hm.only.alloc o⟩
theorem Mir.only' {w0 w w' : World} {s g s' g' : Nat} {h : List Int} {S : List Nat} (hm : Mir w0 w s g s' g' h) (ho : Only S w w') (n1 : s ∉ S) (n2 : g ∉ S) (n3 : s' ∉ S) (n4 : g' ∉ S) (hS : ∀ k ∈ S, w0.heap.size ≤ k) : Mir w0 w' s g s' g' h :=
  ⟨hm.up.only ho n1 n2, hm.dn.only ho n3 n4, hm.sg, hm.gs, hm.gg, hm.base, ((hm.only.more (T := S) (by simp)).trans ho).less fun i hi hl => by have := hS i hi; omega⟩

set_option maxRecDepth 20000 in
set_option maxHeartbeats 2000000 in
theorem mirrors_any (bl : Bool) (c hh : Int) (hc0 : 0 ≤ c) (hc1 : c ≤ 255) (hr : -32768 ≤ hh ∧ hh ≤ 32767) (w : World) (A : Option Addr) (cp : Nat) (ops : List OpR) (ho : OpsAt w A ops) (hwide : ∀ i (hi : i < ops.length), ops[i].Wide) :
    Calls Try.prog 4 #[startV bl c hh, .slice A ops.length cp] w
      fun e w' => e = .returned (.bool true) ∧ Only [] w w' := by
  obtain ⟨k, hk⟩ : ∃ k, (if hh < -32767 then -32767 else hh) = k := ⟨_, rfl⟩
  have hk1 : -32767 ≤ k ∧ k ≤ 32767 := by split at hk <;> omega
  have HB1 := Lib.hid (fun W => begin_any false c k hc0 hc1 (by omega) W)
  have HB2 := Lib.hid (fun W => begin_any true c (-k) hc0 hc1 (by omega) W)
  simp only [if_true, Bool.false_eq_true, if_false, newH_neg] at HB1 HB2
  generalize newH 1 (1 + c.toNat % 40) k = h0 at HB1 HB2
  have wk : IntKind.i16.wrap (-k) = -k := IntWalk.i16_in _ (by omega)
  have HO := Lib.hid ho
  have HW := Lib.hid hwide
  have hlen := ho.few
  have SS := Lib.hid (Blk.new w 35 [.bool bl, .int .u8 c, .int .i16 hh])
  have OB := Lib.hid ((Only.refl [] w).alloc (.cells #[.bool bl, .int .u8 c, .int .i16 hh] 35))
  clear ho hwide
  go_enter Try.func4, Try.ntmps4
  go_wp2_with (first
    | (go_at_call 13; refine (known_any _).mono ?_; rintro e w1 ⟨rfl, ho1⟩; have s := SS.out.only ho1 (by simp); have s0 := s.cell 0; have s1 := s.cell 1; have s2 := s.cell 2; have f0 := s.frozen 0; have f2 := s.frozen 2; simp at s0 s1 s2)
    | (have _T := T; go_at_call 20; refine (HB2.out _).mono ?_; rintro e w3 ⟨s', g', m', j', cap', sp', rfl, hs', hg', hm', hj', hb', ho3⟩)
    | (go_at_call 20; refine (HB1.out _).mono ?_; rintro e w2 ⟨s1, g1, m1, j1, cap, sp, rfl, hs, hg, hm, hj, hb, ho2⟩; have T := ((s.set_ 0 (.bool false)).set_ 2 (.int .i16 k)).only ho2 (by simp); have t0 := T.cell 0; have t1 := T.cell 1; have t2 := T.cell 2; have g0 := T.frozen 0; have g2 := T.frozen 2; simp at t0 t1 t2))
  simp at hs hg hs' hg'
  have l0 := s.lt
  have l1 := hb.sky.head.lt
  have l2 := hb.sky.row.lt
  have hO3 : Only [] w w3 := (((((((OB.out.trans ho1).setCell (p := ⟨w.heap.size, 0, none⟩) (.inr (Nat.le_refl _)) (.bool false)).setCell (p := ⟨w.heap.size, 2, none⟩) (.inr (Nat.le_refl _)) (.int .i16 k)).trans ho2).setCell (p := ⟨w.heap.size, 0, none⟩) (.inr (Nat.le_refl _)) (.bool true)).setCell (p := ⟨w.heap.size, 2, none⟩) (.inr (Nat.le_refl _)) (.int .i16 (-k))).trans ho3)
  have hS3 : Sky w3 s1 g1 1 h0 := hb.sky.only ((((Only.refl [w.heap.size] w2).setCell (p := ⟨w.heap.size, 0, none⟩) (.inl (by simp)) (.bool true)).setCell (p := ⟨w.heap.size, 2, none⟩) (.inl (by simp)) (.int .i16 (-k))).trans (ho3.more (by simp))) (by simp; omega) (by simp; omega)
  have HM : Mir w w3 s1 g1 s' g' h0 := ⟨hS3, hb'.sky, by omega, by omega, by omega, ⟨by omega, by omega⟩, hO3⟩
  clear hO3 hS3 l0 l1 l2 hb hb' ho1 ho2 ho3 hs hg hs' hg' hm hj hm' hj' SS OB _T t0 t1 t2 g0 g2 f0 f2 s0 s2 HB1 HB2 hk wk
  go_loopw [9] (fun i wr => ∃ (j : Nat) (H : List Int), j ≤ ops.length ∧ j ≤ 20 ∧ i = .int .i64 j ∧ Mir w wr s1 g1 s' g' H) (fun i _ => 20 - (intOf i).toNat)
  case atStart => exact ⟨0, _, Nat.zero_le _, by omega, rfl, HM⟩
  case round =>
    obtain ⟨j, H, hj, hj20, rfl, hM⟩ := hrel
    clear HM
    by_cases hlt : j < ops.length
    · by_cases hlt2 : j < 20
      · obtain ⟨b, off, rfl, hbl, hcells⟩ := HO.out.at_ j hlt
        have hwd := HW.out j hlt
        have hkd := HO.out.kds j hlt
        obtain ⟨o, hop⟩ : ∃ o, ops[j] = o := ⟨_, rfl⟩
        have hcw : ∀ i v, o.cells[i]? = some v → wr.cell? ⟨b, off + j * 10 + i, none⟩ = some v := fun i v hv => (hM.only.cell (p := ⟨b, off + j * 10 + i, none⟩) hbl (by simp)).trans (hcells i v (by rw [hop]; exact hv))
        rw [hop] at hkd hwd
        have x0 : wr.cell? ⟨b, off + j * 10, none⟩ = some (.int .u8 o.kd) := hcw 0 _ rfl
        have x1 := hcw 1 _ rfl
        have x2 := hcw 2 _ rfl
        have x3 := hcw 3 _ rfl
        have x4 := hcw 4 _ rfl
        have x5 := hcw 5 _ rfl
        have x6 := hcw 6 _ rfl
        have x7 := hcw 7 _ rfl
        have x8 := hcw 8 _ rfl
        have x9 := hcw 9 _ rfl
        have j0 : (0 : Int) ≤ (j : Int) := by omega
        have j1 : (j : Int) < (ops.length : Int) := by omega
        clear hcw hcells hop
        obtain ⟨hwa, hwb, hwc, hwd', hwe⟩ := hwd
        obtain ⟨kd, a, b', c', d, e', l, bb, r, t⟩ := o
        simp only at x0 x1 x2 x3 x4 x5 x6 x7 x8 x9 hkd hwc
        obtain ⟨v, hv⟩ : ∃ v, (if c' < -1152921504606846976 then -1152921504606846976 else c') = v := ⟨_, rfl⟩
        have hv1 : -1152921504606846976 ≤ v ∧ v ≤ 9223372036854775807 := by unfold I64 at hwc; split at hv <;> omega
        have wv : IntKind.i64.wrap (-v) = -v := IntWalk.i64_in _ (by omega)
        have E1 := Lib.hid (raiseE_neg H a b' v)
        have E2 := Lib.hid (placeE_neg H a b' v d e')
        have hbox := Lib.hid (Blk.new wr 43 [.int .u8 kd, .int .i64 a, .int .i64 b', .int .i64 v, .int .i64 d, .int .i64 e', .int .i64 l, .int .i64 bb, .int .i64 r, .int .i64 t])
        have HM' := Lib.hid (hM.alloc (.cells #[.int .u8 kd, .int .i64 a, .int .i64 b', .int .i64 v, .int .i64 d, .int .i64 e', .int .i64 l, .int .i64 bb, .int .i64 r, .int .i64 t] 43))
        have n0 := Lib.hid hM.up.head.lt
        have n1 := Lib.hid hM.up.row.lt
        have n2 := Lib.hid hM.dn.head.lt
        have n3 := Lib.hid hM.dn.row.lt
        clear hM
        by_cases hk0 : kd % 2 = 0
        · go_wp2_with fail
          have hbox := hbox.out
          have HM' := HM'.out
          have n0 := n0.out
          have n1 := n1.out
          have n2 := n2.out
          have n3 := n3.out
          generalize wr.alloc (.cells #[.int .u8 kd, .int .i64 a, .int .i64 b', .int .i64 v, .int .i64 d, .int .i64 e', .int .i64 l, .int .i64 bb, .int .i64 r, .int .i64 t] 43) = W at hbox HM' ⊢
          generalize wr.heap.size = B at *
          have m1 : B ≠ g1 := by omega
          have m2 : B ≠ g' := by omega
          clear n0 n1 n2 n3 x0 x1 x2 x3 x4 x5 x6 x7 x8 x9
          have q1 : W.cell? ⟨B, 1, none⟩ = some (.int .i64 a) := hbox.cell 1
          have q2 : W.cell? ⟨B, 2, none⟩ = some (.int .i64 b') := hbox.cell 2
          have q3 : W.cell? ⟨B, 3, none⟩ = some (.int .i64 v) := hbox.cell 3
          have q4 : W.cell? ⟨B, 4, none⟩ = some (.int .i64 d) := hbox.cell 4
          have q5 : W.cell? ⟨B, 5, none⟩ = some (.int .i64 e') := hbox.cell 5
          go_region_held3 (fun w' => w'.cell? ⟨B, 1, none⟩ = some (.int .i64 a) ∧ w'.cell? ⟨B, 2, none⟩ = some (.int .i64 b') ∧ w'.cell? ⟨B, 3, none⟩ = some (.int .i64 v)) (first | exact ⟨q1, q2, q3⟩ | exact ⟨u1, u2, u3⟩ | exact ⟨y1, y2, y3⟩) (first
            | (have _o := o1; go_at_call 21; refine (Raise_any (HM'.dn.drew.only o1 (by simpa using HM'.gs.symm) (by simpa using HM'.gg.symm)) _ _ _).mono ?_; rintro e w5 ⟨rfl, r2, o2⟩; rw [E1.out]; have Y := U.only o2 (by simpa using m2); have y1 : w5.cell? ⟨B, 1, none⟩ = some (.int .i64 a) := Y.cell 1; have y2 : w5.cell? ⟨B, 2, none⟩ = some (.int .i64 b') := Y.cell 2; have y3 : w5.cell? ⟨B, 3, none⟩ = some (.int .i64 v) := Y.cell 3; have y4 : w5.cell? ⟨B, 4, none⟩ = some (.int .i64 d) := Y.cell 4; have y5 : w5.cell? ⟨B, 5, none⟩ = some (.int .i64 e') := Y.cell 5)
            | (go_at_call 21; refine (Raise_any HM'.up.drew _ _ _).mono ?_; rintro e w4 ⟨rfl, r1, o1⟩; have U := hbox.drew.only o1 (by simpa using m1); have u1 : w4.cell? ⟨B, 1, none⟩ = some (.int .i64 a) := U.cell 1; have u2 : w4.cell? ⟨B, 2, none⟩ = some (.int .i64 b') := U.cell 2; have u3 : w4.cell? ⟨B, 3, none⟩ = some (.int .i64 v) := U.cell 3; have u4 : w4.cell? ⟨B, 4, none⟩ = some (.int .i64 d) := U.cell 4; have u5 : w4.cell? ⟨B, 5, none⟩ = some (.int .i64 e') := U.cell 5))
          go_wp2
          go_roundw
          case rel => exact ⟨j + 1, _, by omega, by omega, by go_num, HM'.drew.raise r1 o1 (by rw [← raiseH_neg]; exact r2) o2⟩
          case measure => simp [intOf]; omega
        · go_wp2_with fail
          have hbox := hbox.out
          have HM' := HM'.out
          have n0 := n0.out
          have n1 := n1.out
          have n2 := n2.out
          have n3 := n3.out
          have pr := placeV_range HM'.up.low a b' v d e'
          generalize wr.alloc (.cells #[.int .u8 kd, .int .i64 a, .int .i64 b', .int .i64 v, .int .i64 d, .int .i64 e', .int .i64 l, .int .i64 bb, .int .i64 r, .int .i64 t] 43) = W at hbox HM' ⊢
          generalize wr.heap.size = B at *
          have m1 : B ≠ g1 := by omega
          have m2 : B ≠ g' := by omega
          clear n0 n1 n2 n3 x0 x1 x2 x3 x4 x5 x6 x7 x8 x9
          refine (Place_any HM'.up _ _ _ _ _).mono ?_
          rintro e w4 ⟨rfl, r1, o1⟩
          have U := hbox.only o1 (by simpa using m1)
          have q1 : w4.cell? ⟨B, 1, none⟩ = some (.int .i64 a) := U.cell 1
          have q2 : w4.cell? ⟨B, 2, none⟩ = some (.int .i64 b') := U.cell 2
          have q3 : w4.cell? ⟨B, 3, none⟩ = some (.int .i64 v) := U.cell 3
          have q4 : w4.cell? ⟨B, 4, none⟩ = some (.int .i64 d) := U.cell 4
          have q5 : w4.cell? ⟨B, 5, none⟩ = some (.int .i64 e') := U.cell 5
          have HR1 := Lib.hid r1
          have HP := Lib.hid (placeV_neg H a b' v d e')
          clear r1
          generalize placeV 1 H a b' v d e' = P at *
          have wp1 : IntKind.i64.wrap (- -P) = P := by rw [Int.neg_neg]; exact IntWalk.i64_in _ (by omega)
          have wp2 : IntKind.i64.wrap P = P := IntWalk.i64_in _ (by omega)
          go_wp2_with (go_at_call 22; refine (Place_any (HM'.dn.only o1 (by simpa using HM'.gs.symm) (by simpa using HM'.gg.symm)) _ _ _ _ _).mono ?_; rintro e w5 ⟨rfl, r2, o2⟩; rw [HP.out, E2.out])
          go_roundw
          case rel => exact ⟨j + 1, _, by omega, by omega, by go_num, HM'.raise HR1.out o1 (by rw [← placeH_neg]; exact r2) o2⟩
          case measure => simp [intOf]; omega
      · obtain rfl : j = 20 := by omega
        go_wp2
        clear HO HW
        go_loopw [15] (fun i w2 => ∃ q n : Nat, q ≤ H.length ∧ i = .int .i64 q ∧ w2 = wr.drewN n) (fun i _ => H.length - (intOf i).toNat)
        case atStart => exact ⟨0, 0, Nat.zero_le _, rfl, rfl⟩
        case round =>
          obtain ⟨q, n, hq, rfl, rfl⟩ := hrel
          by_cases hql : q < H.length
          · have hfew := hM.up.few
            have b2 := hM.up.low H[q] (List.getElem_mem hql)
            have D1 := Lib.hid (colErr_self hql)
            have D2 := Lib.hid (mostV_self (side := 1) hql)
            have D3 := Lib.hid (mostV_self (side := -1) hql)
            have z0 : IntKind.i64.wrap (-(-1 * H[q])) = 1 * H[q] := by rw [IntWalk.i64_in _ (by omega)]; omega
            have z1 : (0 : Int) ≤ (q : Int) := by omega
            have z2 : (q : Int) < (H.length : Int) := by omega
            go_wp2_with (first
              | (go_at_call 19; refine (ncols_any (hM.up.drewN _)).mono ?_; rintro e w5 ⟨rfl, rfl⟩)
              | (have _a := a1; go_at_call 17; refine (at_any (hM.dn.drewN _) _).mono ?_; rintro e w6 ⟨rfl, n2, rfl⟩; rw [D1.out, D3.out])
              | (go_at_call 17; refine (at_any (hM.up.drewN _) _).mono ?_; rintro e w5 ⟨rfl, n1, rfl⟩; have a1 := n1; rw [D1.out, D2.out]))
            go_roundw
            case rel => exact ⟨q + 1, _, by omega, by go_num, rfl⟩
            case measure => simp [intOf]; omega
          · have z2 : ¬ (q : Int) < (H.length : Int) := by omega
            go_wp2_with (go_at_call 19; refine (ncols_any (hM.up.drewN _)).mono ?_; rintro e w5 ⟨rfl, rfl⟩)
            go_ret
            exact ⟨rfl, hM.only.drewN _⟩
    · obtain rfl : j = ops.length := by omega
      go_wp2
      clear HO HW
      go_loopw [15] (fun i w2 => ∃ q n : Nat, q ≤ H.length ∧ i = .int .i64 q ∧ w2 = wr.drewN n) (fun i _ => H.length - (intOf i).toNat)
      case atStart => exact ⟨0, 0, Nat.zero_le _, rfl, rfl⟩
      case round =>
        obtain ⟨q, n, hq, rfl, rfl⟩ := hrel
        by_cases hql : q < H.length
        · have hfew := hM.up.few
          have b2 := hM.up.low H[q] (List.getElem_mem hql)
          have D1 := Lib.hid (colErr_self hql)
          have D2 := Lib.hid (mostV_self (side := 1) hql)
          have D3 := Lib.hid (mostV_self (side := -1) hql)
          have z0 : IntKind.i64.wrap (-(-1 * H[q])) = 1 * H[q] := by rw [IntWalk.i64_in _ (by omega)]; omega
          have z1 : (0 : Int) ≤ (q : Int) := by omega
          have z2 : (q : Int) < (H.length : Int) := by omega
          go_wp2_with (first
            | (go_at_call 19; refine (ncols_any (hM.up.drewN _)).mono ?_; rintro e w5 ⟨rfl, rfl⟩)
            | (have _a := a1; go_at_call 17; refine (at_any (hM.dn.drewN _) _).mono ?_; rintro e w6 ⟨rfl, n2, rfl⟩; rw [D1.out, D3.out])
            | (go_at_call 17; refine (at_any (hM.up.drewN _) _).mono ?_; rintro e w5 ⟨rfl, n1, rfl⟩; have a1 := n1; rw [D1.out, D2.out]))
          go_roundw
          case rel => exact ⟨q + 1, _, by omega, by go_num, rfl⟩
          case measure => simp [intOf]; omega
        · have z2 : ¬ (q : Int) < (H.length : Int) := by omega
          go_wp2_with (go_at_call 19; refine (ncols_any (hM.up.drewN _)).mono ?_; rintro e w5 ⟨rfl, rfl⟩)
          go_ret
          exact ⟨rfl, hM.only.drewN _⟩
end Go.Proofs.Ytblcgfmgfepajaa
