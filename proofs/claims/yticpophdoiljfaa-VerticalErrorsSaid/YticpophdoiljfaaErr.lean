/- DERIVED. VerticalErrors: the walk. -/
import Derived.Test.YticpophdoiljfaaDmg
import Derived.Test.YticpophdoiljfaaSpw
import Derived.Test.YticpophdoiljfaaQt
import Derived.Deep.DeepCutAuto
namespace Go.Proofs.Yticpophdoiljfaa
open Go.RowKit
attribute [local go_sem ↓] Go.wp_at_zero Go.wp_at_succ

/-- What the switch leaves: staves that pass, or staves with an error. -/
def Left (W : World) (k len : Nat) : Prop := (∃ l n, l.length = len ∧ Stv W k l n) ∨ (∃ gl E, gl.length = len ∧ GStv W k gl ∧ chk gl = E ∧ E ≠ 0)
theorem left_bad {W : World} {k len : Nat} {gl : List GS} {E : Int} (h : GStv W k gl) (hl : gl.length = len) (hc : chk gl = E) (hE : E ≠ 0) : Left W k len := .inr ⟨gl, E, hl, h, hc, hE⟩
theorem left_one {W : World} {k n : Nat} {l : List StaffR} (h : Stv W k l n) (hb : GBlk W k (l.map (toGS n))) (h1 : l.length = 1) : Left (W.setCell ⟨k, 0 * 3 + 2, none⟩ (.int .i64 3)) k l.length := by
  obtain ⟨r, rfl⟩ : ∃ r, l = [r] := List.length_eq_one_iff.1 h1
  have hs := gst_set h hb 0 2 (by simp) (by omega) (.int .i64 3) { toGS n r with part := 3 } rfl (sky_pt (h.ok 0 (by simp))).1 (sky_pt (h.ok 0 (by simp))).2 (by simp)
  obtain ⟨cs, hc, _⟩ := hb.blk
  have o : Only [k] W (W.setCell ⟨k, 0 * 3 + 2, none⟩ (.int .i64 3)) := (Only.refl [k] W).setCell (p := ⟨k, 0 * 3 + 2, none⟩) (.inl (by simp)) _
  have hk := h.ok 0 (by simp)
  have n1 : r.sa ≠ k := hk.above.head.ne_ hc (by decide)
  have n2 : r.ga ≠ k := hk.above.row.ne_ hc (by decide)
  have n3 : r.sb ≠ k := hk.below.head.ne_ hc (by decide)
  have n4 : r.gb ≠ k := hk.below.row.ne_ hc (by decide)
  refine .inl ⟨[{ r with v := { r.v with part := 3 } }], n, rfl, ⟨fun i hi j u hu => ?_, hs.lt, fun i hi => ?_, by simp, by simp, h.npos, h.nfew, fun i hi => ?_, fun i hi => absurd hi (by simp), fun i hi => ?_⟩⟩
  · obtain rfl : i = 0 := by simpa using hi
    exact hs.cell 0 (by simp) j u hu
  · obtain rfl : i = 0 := by simpa using hi
    have := hk.only o (by simpa using n1) (by simpa using n2) (by simpa using n3) (by simpa using n4)
    exact ⟨this.above, this.below, this.la, this.lb, this.new⟩
  · obtain rfl : i = 0 := by simpa using hi
    simp
  · obtain rfl : i = 0 := by simpa using hi
    exact h.low 0 (by simp)

set_option maxRecDepth 20000 in
set_option maxHeartbeats 40000000 in
theorem errors_first {w : World} {A : Option Addr} {X : List (List (Int × Int))} (cx : Nat) (hX : ColsAt w A X) (z : Int) (hz : 0 ≤ z ∧ z ≤ 255) (x y u : Int) :
    Calls Try.prog 11 #[.slice A X.length cx, .int .u8 z, .agg #[.int .i64 x, .int .i64 y, .int .i64 u]] w fun e w' => e = .returned (.bool true) ∧ Only [] w w' := by
  have XF := hX.few
  have XO := Lib.hid ((Only.refl [] w).alloc (.cells #[.int .i64 x, .int .i64 y, .int .i64 u] 68))
  have HB := Lib.hid (Blk.new w 68 [.int .i64 x, .int .i64 y, .int .i64 u])
  have HX := Lib.hid (hX.only XO.out (by simp))
  clear hX
  by_cases hlen : 0 < X.length
  · have HZ := Lib.hid hlen
    have wz : IntKind.i64.wrap z = z := IntWalk.i64_in _ (by omega)
    go_enter Try.func11, Try.ntmps11
    go_upto_if 24 with (first
      | (go_at_call 12; refine (known_any _).mono ?_; rintro e w2 ⟨rfl, o2⟩; have b2 := b1.only o2 (by simp))
      | (go_at_call 16; refine (staves_any A X cx none [] 0 HX.out (BytesAt.none_ _)).mono ?_; rintro e w1 ⟨v, l, rfl, hc⟩; have b1 := HB.out.only hc.only (by simp); have CLN := Lib.hid hc.len; have COW := Lib.hid hc.own; obtain ⟨k, cap, rfl, hk, hst, hL⟩ := stv_of_coll hc (by have := HZ.out; omega) HX.out.rng (BytesAt.none_ w).rng; have HST := Lib.hid hst))
    have X2 := Lib.hid ((XO.out.trans hc.only).trans o2)
    have HS2 := Lib.hid (HST.out.newer o2 (by simp))
    have PZ := Lib.hid (fun i (hi : i < l.length) => parts_zero hL i hi)
    have kn : k < w1.heap.size := hst.lt
    have HG2 := Lib.hid ((gblk_of_own (n := ncol X) (by have := COW.out; rw [← CLN.out] at this; exact this)).only o2 (by simp))
    have kw := Lib.hid (show w.heap.size ≤ k by have := XO.out.size; omega)
    have HB2 := Lib.hid b2
    have nB : Hid (k ≠ w.heap.size) := Lib.hid (by obtain ⟨cs, h1, _⟩ := HG2.out.blk; exact h1.ne_ HB2.out (by decide))
    have lp := HS2.out.pos
    have lf := HS2.out.few
    have hn8 := HS2.out.nfew
    clear b1 b2 hc o2 hk hst hL HB HX HST COW kn
    go_cut [] from 8 to 77 (fun wx => Left wx k l.length ∧ Only [k] w2 wx)
    case first =>
      have l1 : ¬ (l.length : Int) = 0 := by omega
      obtain ⟨kk, hkk⟩ : ∃ kk : Nat, z / 8 % (l.length : Int) = kk := ⟨(z / 8 % (l.length : Int)).toNat, by have := Int.emod_nonneg (z / 8) l1; omega⟩
      have hk1 : kk < l.length := by have := Int.emod_lt_of_pos (z / 8) (show 0 < (l.length : Int) by omega); omega
      have j0 : (0 : Int) ≤ (kk : Int) := by omega
      have j1 : (kk : Int) < (l.length : Int) := by omega
      have hd : z % 8 = 0 ∨ z % 8 = 1 ∨ z % 8 = 2 ∨ z % 8 = 3 ∨ z % 8 = 4 ∨ z % 8 = 5 ∨ z % 8 = 6 ∨ z % 8 = 7 := by omega
      rcases hd with hd | hd | hd | hd | hd | hd | hd | hd
      · go_wp2_with (go_at_call 33; refine (new_ok (-1) 9 0 (.inr rfl) (by omega) (by omega) (by omega) _).mono ?_; rintro e w3 ⟨so, sg, rfl, hso, hsg, hsky, o3⟩; have HS3 := Lib.hid (HS2.out.newer o3 (by simp)); have HG3 := Lib.hid (HG2.out.only o3 (by simp)))
        go_meet
        exact ⟨.inl ⟨l, _, rfl, HS3.out⟩, o3.more (by simp)⟩
      · go_wp2_with (go_at_call 33; refine (new_ok (-1) 9 0 (.inr rfl) (by omega) (by omega) (by omega) _).mono ?_; rintro e w3 ⟨so, sg, rfl, hso, hsg, hsky, o3⟩; have HS3 := Lib.hid (HS2.out.newer o3 (by simp)); have HG3 := Lib.hid (HG2.out.only o3 (by simp)); have c0 := HS3.out.cell kk hk1 0 _ rfl; have c1 := HS3.out.cell kk hk1 1 _ rfl; have c2 := HS3.out.cell kk hk1 2 _ rfl; have f0 := HG3.out.frozen (kk * 3); have f1 := HG3.out.frozen (kk * 3 + 1); have f2 := HG3.out.frozen (kk * 3 + 2); simp only [Nat.add_zero] at c0)
        go_meet
        exact ⟨left_bad (E := 1) (gst_set HS3.out HG3.out kk 0 hk1 (by omega) (.pointer none) ⟨none, (toGS (ncol X) l[kk]).b, none, some (-1, ncol X), l[kk].v.part⟩ rfl rfl (sky_pt (HS3.out.ok kk hk1)).2 (by simp [PZ.out kk hk1])) (by simp) (chk_set PZ.out kk hk1 _ 1 (fun _ => .inr (fun c => rfl)) (fun p _ => rfl) (by decide)) (by decide), (o3.more (T := [k]) (by simp)).setCell (p := ⟨k, kk * 3, none⟩) (.inl (by simp)) _⟩
      · go_wp2_with (go_at_call 33; refine (new_ok (-1) 9 0 (.inr rfl) (by omega) (by omega) (by omega) _).mono ?_; rintro e w3 ⟨so, sg, rfl, hso, hsg, hsky, o3⟩; have HS3 := Lib.hid (HS2.out.newer o3 (by simp)); have HG3 := Lib.hid (HG2.out.only o3 (by simp)); have c0 := HS3.out.cell kk hk1 0 _ rfl; have c1 := HS3.out.cell kk hk1 1 _ rfl; have c2 := HS3.out.cell kk hk1 2 _ rfl; have f0 := HG3.out.frozen (kk * 3); have f1 := HG3.out.frozen (kk * 3 + 1); have f2 := HG3.out.frozen (kk * 3 + 2); simp only [Nat.add_zero] at c0)
        go_meet
        exact ⟨left_bad (E := 1) (gst_set HS3.out HG3.out kk 1 hk1 (by omega) (.pointer none) ⟨(toGS (ncol X) l[kk]).a, none, some (1, ncol X), none, l[kk].v.part⟩ rfl (sky_pt (HS3.out.ok kk hk1)).1 rfl (by simp [PZ.out kk hk1])) (by simp) (chk_set PZ.out kk hk1 _ 1 (fun _ => .inl rfl) (fun p _ => rfl) (by decide)) (by decide), (o3.more (T := [k]) (by simp)).setCell (p := ⟨k, kk * 3 + 1, none⟩) (.inl (by simp)) _⟩
      · go_wp2_with (go_at_call 33; refine (new_ok (-1) 9 0 (.inr rfl) (by omega) (by omega) (by omega) _).mono ?_; rintro e w3 ⟨so, sg, rfl, hso, hsg, hsky, o3⟩; have HS3 := Lib.hid (HS2.out.newer o3 (by simp)); have HG3 := Lib.hid (HG2.out.only o3 (by simp)); have c0 := HS3.out.cell kk hk1 0 _ rfl; have c1 := HS3.out.cell kk hk1 1 _ rfl; have c2 := HS3.out.cell kk hk1 2 _ rfl; have f0 := HG3.out.frozen (kk * 3); have f1 := HG3.out.frozen (kk * 3 + 1); have f2 := HG3.out.frozen (kk * 3 + 2); simp only [Nat.add_zero] at c0)
        go_meet
        exact ⟨left_bad (E := 11) (gst_set HS3.out HG3.out kk 0 hk1 (by omega) (.pointer (some ⟨l[kk].sb, 0, none⟩)) ⟨(toGS (ncol X) l[kk]).b, (toGS (ncol X) l[kk]).b, some (-1, ncol X), some (-1, ncol X), l[kk].v.part⟩ rfl (sky_pt (HS3.out.ok kk hk1)).2 (sky_pt (HS3.out.ok kk hk1)).2 (by simp [PZ.out kk hk1])) (by simp) (chk_set PZ.out kk hk1 _ 11 (fun _ => .inr (fun c => by simp [chkS])) (fun p _ => by simp [chkS]) (by decide)) (by decide), (o3.more (T := [k]) (by simp)).setCell (p := ⟨k, kk * 3, none⟩) (.inl (by simp)) _⟩
      · go_wp2_with (go_at_call 33; refine (new_ok (-1) 9 0 (.inr rfl) (by omega) (by omega) (by omega) _).mono ?_; rintro e w3 ⟨so, sg, rfl, hso, hsg, hsky, o3⟩; have HS3 := Lib.hid (HS2.out.newer o3 (by simp)); have HG3 := Lib.hid (HG2.out.only o3 (by simp)); have c0 := HS3.out.cell kk hk1 0 _ rfl; have c1 := HS3.out.cell kk hk1 1 _ rfl; have c2 := HS3.out.cell kk hk1 2 _ rfl; have f0 := HG3.out.frozen (kk * 3); have f1 := HG3.out.frozen (kk * 3 + 1); have f2 := HG3.out.frozen (kk * 3 + 2); simp only [Nat.add_zero] at c0)
        go_meet
        exact ⟨left_bad (E := 2) (gst_set HS3.out HG3.out kk 1 hk1 (by omega) (.pointer (some ⟨so, 0, none⟩)) ⟨(toGS (ncol X) l[kk]).a, some ⟨so, 0, none⟩, some (1, ncol X), some (-1, 9), l[kk].v.part⟩ rfl (sky_pt (HS3.out.ok kk hk1)).1 ⟨so, sg, _, rfl, hsky, by simp [newH]⟩ (by simp [PZ.out kk hk1])) (by simp) (chk_set PZ.out kk hk1 _ 2 (fun _ => .inl rfl) (fun p _ => by have h9 : ¬ 9 = ncol X := (by omega); simp [chkS, h9]) (by decide)) (by decide), (o3.more (T := [k]) (by simp)).setCell (p := ⟨k, kk * 3 + 1, none⟩) (.inl (by simp)) _⟩
      · go_wp2_with (go_at_call 33; refine (new_ok (-1) 9 0 (.inr rfl) (by omega) (by omega) (by omega) _).mono ?_; rintro e w3 ⟨so, sg, rfl, hso, hsg, hsky, o3⟩; have HS3 := Lib.hid (HS2.out.newer o3 (by simp)); have HG3 := Lib.hid (HG2.out.only o3 (by simp)); have c0 := HS3.out.cell kk hk1 0 _ rfl; have c1 := HS3.out.cell kk hk1 1 _ rfl; have c2 := HS3.out.cell kk hk1 2 _ rfl; have f0 := HG3.out.frozen (kk * 3); have f1 := HG3.out.frozen (kk * 3 + 1); have f2 := HG3.out.frozen (kk * 3 + 2); simp only [Nat.add_zero] at c0)
        go_meet
        exact ⟨left_bad (E := 2) (gst_set HS3.out HG3.out kk 2 hk1 (by omega) (.int .i64 (-1)) ⟨(toGS (ncol X) l[kk]).a, (toGS (ncol X) l[kk]).b, some (1, ncol X), some (-1, ncol X), -1⟩ rfl (sky_pt (HS3.out.ok kk hk1)).1 (sky_pt (HS3.out.ok kk hk1)).2 (by simp)) (by simp) (chk_set PZ.out kk hk1 _ 2 (fun _ => .inl rfl) (fun p _ => by simp [chkS]) (by decide)) (by decide), (o3.more (T := [k]) (by simp)).setCell (p := ⟨k, kk * 3 + 2, none⟩) (.inl (by simp)) _⟩
      · go_wp2_with (go_at_call 33; refine (new_ok (-1) 9 0 (.inr rfl) (by omega) (by omega) (by omega) _).mono ?_; rintro e w3 ⟨so, sg, rfl, hso, hsg, hsky, o3⟩; have HS3 := Lib.hid (HS2.out.newer o3 (by simp)); have HG3 := Lib.hid (HG2.out.only o3 (by simp)); have c2 : w3.cell? ⟨k, 2, none⟩ = some (.int .i64 (l[0]).v.part) := (by simpa using HS3.out.cell 0 lp 2 _ rfl); have f2 := HG3.out.frozen 2)
        go_meet
        by_cases h2 : 2 ≤ l.length
        · exact ⟨left_bad (E := 25) (gst_set HS3.out HG3.out 0 2 lp (by omega) (.int .i64 3) { toGS (ncol X) (l[0]) with part := 3 } rfl (sky_pt (HS3.out.ok 0 lp)).1 (sky_pt (HS3.out.ok 0 lp)).2 (by simp)) (by simp) (chk_three PZ.out h2 _ rfl) (by decide), (o3.more (T := [k]) (by simp)).setCell (p := ⟨k, 2, none⟩) (.inl (by simp)) _⟩
        · exact ⟨left_one HS3.out HG3.out (by omega), (o3.more (T := [k]) (by simp)).setCell (p := ⟨k, 2, none⟩) (.inl (by simp)) _⟩
      · go_wp2_with (go_at_call 33; refine (new_ok (-1) 9 0 (.inr rfl) (by omega) (by omega) (by omega) _).mono ?_; rintro e w3 ⟨so, sg, rfl, hso, hsg, hsky, o3⟩; have HS3 := Lib.hid (HS2.out.newer o3 (by simp)); have HG3 := Lib.hid (HG2.out.only o3 (by simp)))
        go_meet
        exact ⟨.inl ⟨l, _, rfl, HS3.out⟩, o3.more (by simp)⟩
    case rest =>
      obtain ⟨hleft, hO⟩ := hcut
      obtain ⟨wx, rfl⟩ : ∃ wx : World, wx = wc := ⟨_, rfl⟩
      have XW := Lib.hid (show Only [] w wx from ((X2.out.more (T := [k]) (by simp)).trans hO).less (fun q hq hl => by have := kw.out; simp at hq; omega))
      have KR := Lib.hid (fun (W : World) (h : Only [] wx W) => show W.cell? ⟨w.heap.size, 0, none⟩ = some (.int .i64 x) ∧ W.cell? ⟨w.heap.size, 1, none⟩ = some (.int .i64 y) ∧ W.cell? ⟨w.heap.size, 2, none⟩ = some (.int .i64 u) by
        have b := (HB2.out.only hO (by simpa using Ne.symm nB.out)).only h (by simp)
        exact ⟨b.cell 0, b.cell 1, b.cell 2⟩)
      have EQ := Lib.hid (fun (W : World) => show Calls Try.prog 31 #[sysV none 0 0 0 0, sysV none 0 0 0 0] W fun e w' => e = .returned (.bool true) ∧ Only [] W w' by
        have := Equal_any (w := W) (A := none) (A' := none) (ms := []) (ms' := []) 0 0 0 0 0 0 (fun i hi => absurd hi (by simp)) (fun i hi => absurd hi (by simp)) (by simp)
        refine this.mono ?_
        rintro e w' ⟨rfl, h1⟩
        exact ⟨ret_bool (by simp [sameB]), h1⟩)
      have lwR := KR.out wx (Only.refl [] wx)
      obtain ⟨r0, r1, r2⟩ := lwR
      clear hO HB2 nB kw X2 HG2 HS2 PZ CLN
      generalize w.heap.size = R at *
      rcases hleft with ⟨l2, n2, hl2, hs2⟩ | ⟨gl, E, hgl, hg, hc, hE⟩
      · have HS := Lib.hid hs2
        rw [← hl2]
        have lp2 := hs2.pos
        have lf2 := hs2.few
        have CK := Lib.hid (show ErrC wx (.slice (some ⟨k, 0, none⟩) l2.length cap) 0 from fun W hW => Check_ok cap (HS.out.newer hW (by simp)))
        have MK := Lib.hid (fun (W : World) (hW : Only [] wx W) => mcheck_ok cap (HS.out.newer hW (by simp)))
        clear hl2 hs2
        by_cases hb : x < 0 ∨ 65536 < x ∨ y < 1 ∨ 65536 < y
        · have DE := Lib.hid (fun (W : World) (hW : Only [] wx W) => Distances_err (gaps_rng CK.out x y hb) (by decide) W hW)
          have SE := Lib.hid (fun (W : World) (hW : Only [] wx W) => Stack_err (gaps_rng CK.out x y hb) (by decide) W hW)
          have hcases : decide (x < 0) = true ∨ (decide (x < 0) = false ∧ decide (65536 < x) = true) ∨ (decide (x < 0) = false ∧ decide (65536 < x) = false ∧ decide (y < 1) = true) ∨ (decide (x < 0) = false ∧ decide (65536 < x) = false ∧ decide (y < 1) = false ∧ decide (65536 < y) = true) := by
            simp only [decide_eq_true_eq, decide_eq_false_iff_not]
            omega
          clear hb
          rcases hcases with h1 | ⟨h1, h2⟩ | ⟨h1, h2, h3⟩ | ⟨h1, h2, h3, h4⟩
          all_goals
            go_wp2_with (first
              | (go_at_call 31; (with_reducible refine (EQ.out _).mono ?_); rintro e w8 ⟨rfl, o8⟩)
              | (go_at_call 17; (with_reducible refine (SE.out _ p6).mono ?_); rintro e w7 ⟨rfl, o7⟩; have p7 := p6.trans o7)
              | (go_at_call 21; (with_reducible refine (DE.out _ p5).mono ?_); rintro e w6 ⟨rfl, o6⟩; have p6 := p5.trans o6; have r6 := KR.out _ p6; have r60 := r6.1; have r61 := r6.2.1)
              | (go_at_call 34; refine (CK.out _ p4).mono ?_; rintro e w5 ⟨rfl, o5⟩; have p5 := p4.trans o5; have r5 := KR.out _ p5; have r50 := r5.1; have r51 := r5.2.1)
              | (go_at_call 19; (with_reducible refine (MK.out _ (Only.refl [] wx)).mono ?_); rintro e w4 ⟨rfl, o4⟩; have p4 : Only [] wx w4 := o4))
            go_ret
            exact ⟨(by first | rfl | exact ret_bool (by simp)), (XW.out.trans (p7.alloc _)).trans o8⟩
        · have hg1 : 0 ≤ x ∧ x ≤ 65536 ∧ 1 ≤ y ∧ y ≤ 65536 := by omega
          have d1 : decide (x < 0) = false := by simp; omega
          have d2 : decide (65536 < x) = false := by simp; omega
          have d3 : decide (y < 1) = false := by simp; omega
          have d4 : decide (65536 < y) = false := by simp; omega
          clear hb
          obtain ⟨T, hT⟩ : ∃ T, topTo (l2.map StaffR.v) x y (l2.map StaffR.v).length = T := ⟨_, rfl⟩
          obtain ⟨U, hU⟩ : ∃ U, botTo (l2.map StaffR.v) x y (l2.map StaffR.v).length = U := ⟨_, rfl⟩
          have HPR : Hid (Proper (mids (l2.map StaffR.v) x y) T U) := Lib.hid (by rw [← hT, ← hU]; exact stack_proper HS.out (by omega) (by omega) (by omega) (by omega))
          have HT := Lib.hid hT
          have HU := Lib.hid hU
          clear hT hU
          go_wp2_with (first
            | (go_at_call 17; refine (Stack_ok cap (HS.out.newer p6 (by simp)) x y (by omega) (by omega) (by omega) (by omega)).mono ?_; rintro e w7 ⟨g, cg, rfl, hg, hgw, hm, o7⟩; rw [HT.out, HU.out, List.length_map]; have B3 := Lib.hid (Blk.new w7 24 [.slice (some ⟨g, 0, none⟩) l2.length cg, .int .i64 T, .int .i64 U]); have P7 := Lib.hid ((p6.trans o7).alloc (.cells #[.slice (some ⟨g, 0, none⟩) l2.length cg, .int .i64 T, .int .i64 U] 24)); have HM := Lib.hid (show IntsAt (w7.alloc (.cells #[.slice (some ⟨g, 0, none⟩) l2.length cg, .int .i64 T, .int .i64 U] 24)) (some ⟨g, 0, none⟩) (mids (l2.map StaffR.v) x y) from fun i hi => ⟨g, 0, rfl, (by simp; omega), by rw [Nat.zero_add, World.cell?_alloc_lt _ _ ⟨g, i, none⟩ hgw, hm i (by rw [← mids_len]; exact hi), ← mids_get _ _ _ _ (by rw [← mids_len]; exact hi), getD_get hi]⟩))
            | (go_at_call 21; refine (Distances_ok cap (HS.out.newer p5 (by simp)) x y (by omega) (by omega) (by omega) (by omega)).mono ?_; rintro e w6 ⟨dv, rfl, hown6, o6⟩; obtain ⟨D6, c6, rfl⟩ := own_slice hown6; have p6 := p5.trans o6; have r6 := KR.out _ p6; have r60 := r6.1; have r61 := r6.2.1)
            | (go_at_call 34; refine (CK.out _ p4).mono ?_; rintro e w5 ⟨rfl, o5⟩; have p5 := p4.trans o5; have r5 := KR.out _ p5; have r50 := r5.1; have r51 := r5.2.1)
            | (go_at_call 19; (with_reducible refine (MK.out _ (Only.refl [] wx)).mono ?_); rintro e w4 ⟨rfl, o4⟩; have p4 : Only [] wx w4 := o4))
          clear hg hgw hm hown6 o4 o5 o6 o7 p4 p5 p6 r5 r50 r51 r6 r60 r61 r0 r1 r2
          generalize w7.alloc (.cells #[.slice (some ⟨g, 0, none⟩) l2.length cg, .int .i64 T, .int .i64 U] 24) = W3 at *
          generalize w7.heap.size = B3i at *
          have ML := Lib.hid (show (mids (l2.map StaffR.v) x y).length = l2.length by rw [mids_len, List.length_map])
          have HSW := Lib.hid (HS.out.newer P7.out (by simp))
          have KEEP := Lib.hid (fun (W : World) (h : Only [] W3 W) => show W.cell? ⟨B3i, 0, none⟩ = some (.slice (some ⟨g, 0, none⟩) l2.length cg) ∧ W.cell? ⟨B3i, 1, none⟩ = some (.int .i64 T) ∧ W.cell? ⟨B3i, 2, none⟩ = some (.int .i64 U) ∧ W.cell? ⟨R, 2, none⟩ = some (.int .i64 u) from ⟨(B3.out.only h (by simp)).cell 0, (B3.out.only h (by simp)).cell 1, (B3.out.only h (by simp)).cell 2, (KR.out _ (P7.out.trans h)).2.2⟩)
          obtain ⟨EE, hEE, SPR⟩ : ∃ EE : Int, (((u < 0 ∨ 16777216 < u) ∧ EE = 2) ∨ (0 ≤ u ∧ u ≤ 16777216 ∧ EE = 0)) ∧ Hid (∀ (W : World) (h : Only [] W3 W) (A4 : Option Addr) (c4 : Nat) (hI : IntsAt W A4 (partsOf l2)), Calls Try.prog 29 #[sysV (some ⟨g, 0, none⟩) l2.length cg T U, .slice A4 (partsOf l2).length c4, .int .i64 u] W fun e w' => ∃ A5 n5 c5 t5 b5, e = .returned (.tuple #[sysV A5 n5 c5 t5 b5, .int .i64 EE]) ∧ Only [] W w') := by
            by_cases hu : u < 0 ∨ 16777216 < u
            · refine ⟨2, .inl ⟨hu, rfl⟩, Lib.hid fun W h A4 c4 hI => ?_⟩
              have := Spread_rng cg c4 T U u (HM.out.only h (by simp)) (by rw [ML.out]; omega) hI (by rw [partsOf_len]; omega) (by rw [partsE, if_pos (properB_true HPR.out), if_pos (by rw [partsOf_len, ML.out]), if_pos (sortedB_true (parts_sorted HSW.out))]) hu
              rw [ML.out] at this
              exact this.mono fun e w' ⟨he, ho⟩ => ⟨none, 0, 0, 0, 0, he, ho⟩
            · refine ⟨0, .inr ⟨by omega, by omega, rfl⟩, Lib.hid fun W h A4 c4 hI => ?_⟩
              have := spread_ok cg c4 T U u (HM.out.only h (by simp)) (by rw [ML.out]; omega) hI HPR.out (by rw [partsOf_len, ML.out]) (parts_sorted HSW.out) (by omega) (by omega)
              rw [ML.out] at this
              exact this.mono fun e w' ⟨g5, c5, he, _, _, _, ho⟩ => ⟨_, _, _, _, _, he, ho⟩
          have kp := KEEP.out W3 (Only.refl [] W3)
          have lB3 := B3.out.lt
          go_region_held3 (fun W => W.cell? ⟨B3i, 0, none⟩ = some (.slice (some ⟨g, 0, none⟩) l2.length cg) ∧ W.cell? ⟨B3i, 1, none⟩ = some (.int .i64 T) ∧ W.cell? ⟨B3i, 2, none⟩ = some (.int .i64 U) ∧ W.cell? ⟨R, 2, none⟩ = some (.int .i64 u)) (first | exact kp | exact KEEP.out _ (Only.refl [] W3).drew | exact KEEP.out _ ((Only.refl [] W3).drew.alloc _) | exact KEEP.out _ p4 | exact KEEP.out _ (p4.alloc _) | exact KEEP.out _ p5 | exact KEEP.out _ (p5.alloc _) | exact KEEP.out _ (((p5.setCell (.inr (by first | exact Nat.le_refl _ | exact p4.size)) _).setCell (.inr (by first | exact Nat.le_refl _ | exact p4.size)) _).setCell (.inr (by first | exact Nat.le_refl _ | exact p4.size)) _)) (first
            | (have _t := hI4; go_at_call 29; refine (SPR.out _ (by first | exact p4 | exact p4.alloc _) A4 c4 (hI4.only (by first | exact Only.refl [] _ | exact (Only.refl [] _).alloc _) (by simp))).mono ?_; rintro e w5 ⟨A5, n5, c5, t5, b5, rfl, o5⟩; have p5 : Only [] W3 w5 := (by first | exact p4.trans o5 | exact (p4.alloc _).trans o5); (try (have zB : Blk w5 W3.heap.size 24 [.slice none 0 0, .int .i64 0, .int .i64 0] := (Blk.new W3.drew 24 [.slice none 0 0, .int .i64 0, .int .i64 0]).only ((show Only [] (W3.drew.alloc (.cells #[.slice none 0 0, .int .i64 0, .int .i64 0] 24)) w4 from o4).trans o5) (by simp); have z0 := zB.cell 0; have z1 := zB.cell 1; have z2 := zB.cell 2; have zf0 := zB.frozen 0; have zf1 := zB.frozen 1; have zf2 := zB.frozen 2; simp at z0 z1 z2)); (try (have zB : Blk w5 w4.heap.size 24 [.slice none 0 0, .int .i64 0, .int .i64 0] := (Blk.new w4 24 [.slice none 0 0, .int .i64 0, .int .i64 0]).only (show Only [] (w4.alloc (.cells #[.slice none 0 0, .int .i64 0, .int .i64 0] 24)) w5 from o5) (by simp); have z0 := zB.cell 0; have z1 := zB.cell 1; have z2 := zB.cell 2; have zf0 := zB.frozen 0; have zf1 := zB.frozen 1; have zf2 := zB.frozen 2; simp at z0 z1 z2)))
            | (go_at_call 30; refine (numbers_any cap (HSW.out.newer (by first | exact (Only.refl [] W3).drew | exact ((Only.refl [] W3).drew).alloc _) (by simp))).mono ?_; rintro e w4 ⟨A4, c4, rfl, hI4, o4⟩; have p4 : Only [] W3 w4 := (by first | exact ((Only.refl [] W3).drew).trans o4 | exact (((Only.refl [] W3).drew).alloc _).trans o4)))
          all_goals
            (first
              | (have HQ := Lib.hid (((p5.setCell (p := ⟨W3.heap.size, 0, none⟩) (.inr (Nat.le_refl _)) (.slice A5 n5 c5)).setCell (p := ⟨W3.heap.size, 1, none⟩) (.inr (Nat.le_refl _)) (.int .i64 t5)).setCell (p := ⟨W3.heap.size, 2, none⟩) (.inr (Nat.le_refl _)) (.int .i64 b5)); have hz : Blk w5 W3.heap.size 24 _ := zB; clear hz zB z0 z1 z2 zf0 zf1 zf2; generalize ((w5.setCell ⟨W3.heap.size, 0, none⟩ (.slice A5 n5 c5)).setCell ⟨W3.heap.size, 1, none⟩ (.int .i64 t5)).setCell ⟨W3.heap.size, 2, none⟩ (.int .i64 b5) = W9 at HQ ⊢)
              | (have HQ := Lib.hid (((p5.setCell (p := ⟨w4.heap.size, 0, none⟩) (.inr p4.size) (.slice A5 n5 c5)).setCell (p := ⟨w4.heap.size, 1, none⟩) (.inr p4.size) (.int .i64 t5)).setCell (p := ⟨w4.heap.size, 2, none⟩) (.inr p4.size) (.int .i64 b5)); have hz : Blk w5 w4.heap.size 24 _ := zB; clear hz zB z0 z1 z2 zf0 zf1 zf2; generalize ((w5.setCell ⟨w4.heap.size, 0, none⟩ (.slice A5 n5 c5)).setCell ⟨w4.heap.size, 1, none⟩ (.int .i64 t5)).setCell ⟨w4.heap.size, 2, none⟩ (.int .i64 b5) = W9 at HQ ⊢)
              | (have HQ := Lib.hid (p5.alloc (.cells #[.slice A5 n5 c5, .int .i64 t5, .int .i64 b5] 24)); generalize w5.alloc (.cells #[.slice A5 n5 c5, .int .i64 t5, .int .i64 b5] 24) = W9 at HQ ⊢))
            have hu9 : Only [] W3 W9 := HQ.out
            have ru := (KEEP.out W9 hu9).2.2.2
            clear hu9 kp p4 p5 o4 o5 hI4 SPR
            rcases hEE with ⟨hu, rfl⟩ | ⟨hu1, hu2, rfl⟩
            · have hu' : decide (u < 0) = true ∨ (decide (u < 0) = false ∧ decide (16777216 < u) = true) := by
                simp only [decide_eq_true_eq, decide_eq_false_iff_not]
                omega
              clear hu
              rcases hu' with h1 | ⟨h1, h2⟩
              all_goals
                go_wp2
                go_ret
                exact ⟨(by first | rfl | exact ret_bool (by simp)), (XW.out.trans P7.out).trans HQ.out⟩
            · have h1 : decide (u < 0) = false := by simp; omega
              have h2 : decide (16777216 < u) = false := by simp; omega
              go_wp2
              go_ret
              exact ⟨(by first | rfl | exact ret_bool (by simp)), (XW.out.trans P7.out).trans HQ.out⟩
      · have HE := Lib.hid hE
        rw [← hgl]
        have CK := Lib.hid (show ErrC wx (.slice (some ⟨k, 0, none⟩) gl.length cap) E from fun W hW => by
          have := GCheck_any cap (hg.newer hW (by simp))
          rw [hc] at this
          exact this)
        have MK := Lib.hid (fun (W : World) (hW : Only [] wx W) => show Calls Try.prog 19 #[.slice (some ⟨k, 0, none⟩) gl.length cap] W fun e w' => e = .returned (.int .i64 E) ∧ Only [] W w' by
          have := gcheck_any cap (hg.newer hW (by simp))
          rw [hc] at this
          exact this)
        have DE := Lib.hid (fun (W : World) (hW : Only [] wx W) => Distances_err (gaps_chk CK.out HE.out x y) HE.out W hW)
        have SE := Lib.hid (fun (W : World) (hW : Only [] wx W) => Stack_err (gaps_chk CK.out HE.out x y) HE.out W hW)
        have e1 : (E == 0) = false := by simpa using hE
        have e2 : (E != 0) = true := by simpa using hE
        have e3 : (E != E) = false := by simp
        clear hE hgl hc hg
        go_wp2_with (first
          | (go_at_call 31; (with_reducible refine (EQ.out _).mono ?_); rintro e w8 ⟨rfl, o8⟩)
          | (go_at_call 17; (with_reducible refine (SE.out _ p6).mono ?_); rintro e w7 ⟨rfl, o7⟩; have p7 := p6.trans o7)
          | (go_at_call 21; (with_reducible refine (DE.out _ p5).mono ?_); rintro e w6 ⟨rfl, o6⟩; have p6 := p5.trans o6; have r6 := KR.out _ p6; have r60 := r6.1; have r61 := r6.2.1)
          | (go_at_call 34; refine (CK.out _ p4).mono ?_; rintro e w5 ⟨rfl, o5⟩; have p5 := p4.trans o5; have r5 := KR.out _ p5; have r50 := r5.1; have r51 := r5.2.1)
          | (go_at_call 19; (with_reducible refine (MK.out _ (Only.refl [] wx)).mono ?_); rintro e w4 ⟨rfl, o4⟩; have p4 : Only [] wx w4 := o4))
        go_ret
        exact ⟨(by first | rfl | exact ret_bool (by simp)), (XW.out.trans (p7.alloc _)).trans o8⟩
  · have hx0 : min X.length 6 = 0 := by omega
    have HX0 := Lib.hid hx0
    clear hx0
    go_enter Try.func11, Try.ntmps11
    go_upto_if 24 with (first
      | (go_at_call 12; refine (known_any _).mono ?_; rintro e wx ⟨rfl, o2⟩; have b2 := b1.only o2 (by simp))
      | (go_at_call 16; refine (staves_any A X cx none [] 0 HX.out (BytesAt.none_ _)).mono ?_; rintro e w1 ⟨v, l, rfl, hc⟩; have b1 := HB.out.only hc.only (by simp); obtain ⟨A1, c1, rfl⟩ := own_slice hc.own; rw [HX0.out]))
    have XW := Lib.hid ((XO.out.trans hc.only).trans o2)
    have KR := Lib.hid (fun (W : World) (h : Only [] wx W) => show W.cell? ⟨w.heap.size, 0, none⟩ = some (.int .i64 x) ∧ W.cell? ⟨w.heap.size, 1, none⟩ = some (.int .i64 y) ∧ W.cell? ⟨w.heap.size, 2, none⟩ = some (.int .i64 u) by
      have b := b2.only h (by simp)
      exact ⟨b.cell 0, b.cell 1, b.cell 2⟩)
    have EQ := Lib.hid (fun (W : World) => show Calls Try.prog 31 #[sysV none 0 0 0 0, sysV none 0 0 0 0] W fun e w' => e = .returned (.bool true) ∧ Only [] W w' by
      have := Equal_any (w := W) (A := none) (A' := none) (ms := []) (ms' := []) 0 0 0 0 0 0 (fun i hi => absurd hi (by simp)) (fun i hi => absurd hi (by simp)) (by simp)
      refine this.mono ?_
      rintro e w' ⟨rfl, h1⟩
      exact ⟨ret_bool (by simp [sameB]), h1⟩)
    have CK := Lib.hid (show ErrC wx (.slice A1 0 c1) 4 from fun W hW => Check_nil A1 c1 W)
    have MK := Lib.hid (fun (W : World) (hW : Only [] wx W) => mcheck_nil A1 c1 W)
    have DE := Lib.hid (fun (W : World) (hW : Only [] wx W) => Distances_err (gaps_chk CK.out (by decide) x y) (by decide) W hW)
    have SE := Lib.hid (fun (W : World) (hW : Only [] wx W) => Stack_err (gaps_chk CK.out (by decide) x y) (by decide) W hW)
    obtain ⟨r0, r1, r2⟩ := KR.out wx (Only.refl [] wx)
    clear hc o2 b1 b2 HB HX XO
    generalize w.heap.size = R at *
    go_wp2_with (first
      | (go_at_call 31; (with_reducible refine (EQ.out _).mono ?_); rintro e w8 ⟨rfl, o8⟩)
      | (go_at_call 17; (with_reducible refine (SE.out _ p6).mono ?_); rintro e w7 ⟨rfl, o7⟩; have p7 := p6.trans o7)
      | (go_at_call 21; (with_reducible refine (DE.out _ p5).mono ?_); rintro e w6 ⟨rfl, o6⟩; have p6 := p5.trans o6; have r6 := KR.out _ p6; have r60 := r6.1; have r61 := r6.2.1)
      | (go_at_call 34; refine (CK.out _ p4).mono ?_; rintro e w5 ⟨rfl, o5⟩; have p5 := p4.trans o5; have r5 := KR.out _ p5; have r50 := r5.1; have r51 := r5.2.1)
      | (go_at_call 19; (with_reducible refine (MK.out _ (Only.refl [] wx)).mono ?_); rintro e w4 ⟨rfl, o4⟩; have p4 : Only [] wx w4 := o4))
    go_ret
    exact ⟨(by first | rfl | exact ret_bool (by simp)), (XW.out.trans (p7.alloc _)).trans o8⟩
end Go.Proofs.Yticpophdoiljfaa
