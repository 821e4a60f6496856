/- DERIVED. SkylineFree: the walk. -/
import Derived.Test.YtblcgfmgfepajaaFreeL
import Derived.Test.YtblcgfmgfepajaaClone
namespace Go.Proofs.Ytblcgfmgfepajaa
open Go.RowKit

theorem quiet_add_left {P : Program} {f : FuncId} {args : Array Value} {w : World} {a n : Nat} {v : Value}
    (h : Calls P f args (w.drewN (a + n)) fun e w' => e = .returned v ∧ w.drewN (a + n) = w') :
    Calls P f args (w.drewN (a + n)) fun e w'' => e = .returned v ∧ ∃ m, w'' = w.drewN (a + m) :=
  h.mono fun _ _ ⟨he, hm⟩ => ⟨he, n, hm.symm⟩
theorem tmod_1000 (x : Int) : -1000 < x.tmod 1000 ∧ x.tmod 1000 < 1000 := by
  have h1 := Int.tmod_lt_of_pos x (show (0 : Int) < 1000 by omega)
  have h2 := Int.lt_tmod_of_pos x (show (0 : Int) < 1000 by omega)
  omega

set_option maxRecDepth 20000 in
set_option maxHeartbeats 4000000 in
theorem free_any (bl : Bool) (c hh : Int) (hc0 : 0 ≤ c) (hc1 : c ≤ 255) (hr : -32768 ≤ hh ∧ hh ≤ 32767) (w : World) (A : Option Addr) (cp : Nat) (ops : List OpR) (ho : OpsAt w A ops) (o : OpR) :
    Calls Try.prog 9 #[startV bl c hh, .slice A ops.length cp, .agg o.cells.toArray] w
      fun e w' => e = .returned (.bool true) ∧ Only [] w w' := by
  generalize hside : (if bl then (-1 : Int) else 1) = side
  generalize hH : playTo side (newH side (1 + c.toNat % 40) hh) ops 20 = H
  have HP := Lib.hid (fun W hW => play_any bl c hh hc0 hc1 hr W A cp ops hW)
  rw [hside, hH] at HP
  clear hside hH
  have HO := Lib.hid ho
  rw [show o.cells.toArray = #[.int .u8 o.kd, .int .i64 o.a, .int .i64 o.b, .int .i64 o.c, .int .i64 o.d, .int .i64 o.e, .int .i64 o.l, .int .i64 o.bb, .int .i64 o.r, .int .i64 o.t] from rfl]
  have OB := Lib.hid (((Only.refl [] w).alloc (.cells #[.bool bl, .int .u8 c, .int .i16 hh] 35)).alloc (.cells #[.int .u8 o.kd, .int .i64 o.a, .int .i64 o.b, .int .i64 o.c, .int .i64 o.d, .int .i64 o.e, .int .i64 o.l, .int .i64 o.bb, .int .i64 o.r, .int .i64 o.t] 43))
  have s := (Blk.new w 35 [.bool bl, .int .u8 c, .int .i16 hh]).alloc (.cells #[.int .u8 o.kd, .int .i64 o.a, .int .i64 o.b, .int .i64 o.c, .int .i64 o.d, .int .i64 o.e, .int .i64 o.l, .int .i64 o.bb, .int .i64 o.r, .int .i64 o.t] 43)
  have t : Blk ((w.alloc (.cells #[.bool bl, .int .u8 c, .int .i16 hh] 35)).alloc (.cells #[.int .u8 o.kd, .int .i64 o.a, .int .i64 o.b, .int .i64 o.c, .int .i64 o.d, .int .i64 o.e, .int .i64 o.l, .int .i64 o.bb, .int .i64 o.r, .int .i64 o.t] 43)) (w.heap.size + 1) 43 o.cells := by
    have := Blk.new (w.alloc (.cells #[.bool bl, .int .u8 c, .int .i16 hh] 35)) 43 o.cells
    rw [World.size_alloc] at this
    exact this
  have SS := Lib.hid s
  have TT := Lib.hid t
  clear s t ho
  go_enter Try.func9, Try.ntmps9
  go_wp2_with (first
    | (go_at_call 13; refine (known_any _).mono ?_; rintro e w1 ⟨rfl, ho1⟩; have sB := SS.out.only ho1 (by simp); have sB0 := sB.cell 0; have sB1 := sB.cell 1; have sB2 := sB.cell 2; simp at sB0 sB1 sB2; have TT1 := TT.out.only ho1 (by simp))
    | (go_at_call 23; refine (HP.out _ ((HO.out.only OB.out).only ho1)).mono ?_; rintro e w2 ⟨s, g, m, k, cap, sp, rfl, hs, hg, hm, hk, hb, ho2⟩; have T2 := TT1.only ho2 (by simp)))
  generalize w.heap.size + 1 = B at *
  have t1 : w2.cell? ⟨B, 1, none⟩ = some (.int .i64 o.a) := T2.cell 1
  have t2 : w2.cell? ⟨B, 2, none⟩ = some (.int .i64 o.b) := T2.cell 2
  have t3 : w2.cell? ⟨B, 3, none⟩ = some (.int .i64 o.c) := T2.cell 3
  have t4 : w2.cell? ⟨B, 4, none⟩ = some (.int .i64 o.d) := T2.cell 4
  have t5 : w2.cell? ⟨B, 5, none⟩ = some (.int .i64 o.e) := T2.cell 5
  have X2 := Lib.hid ((OB.out.trans ho1).trans ho2)
  have HB := Lib.hid hb
  have LB := T2.lt
  have HGW : Hid (w.heap.size ≤ g) := Lib.hid (by have h1 := ho1.size; have h2 := hg; have h3 := OB.out.size; omega)
  clear sB sB0 sB1 sB2 T2 TT1 HO HP OB SS TT ho1 ho2 hb hs hg hm hk
  have hpos := HB.out.sky.pos
  have hfew := HB.out.sky.few
  obtain ⟨f1, hf1⟩ : ∃ v, (if (H.length : Int) - 1 < o.a then (H.length : Int) - 1 else o.a) = v := ⟨_, rfl⟩
  obtain ⟨a, ha⟩ : ∃ a : Nat, (if 0 < f1 then f1 else 0) = (a : Int) := ⟨(if 0 < f1 then f1 else 0).toNat, by split <;> omega⟩
  obtain ⟨l1, hl1⟩ : ∃ v, (if (H.length : Int) - 1 < o.b then (H.length : Int) - 1 else o.b) = v := ⟨_, rfl⟩
  obtain ⟨b, hb⟩ : ∃ b : Nat, (if (a : Int) < l1 then l1 else (a : Int)) = (b : Int) := ⟨(if (a : Int) < l1 then l1 else (a : Int)).toNat, by split <;> omega⟩
  obtain ⟨nr, hnr⟩ : ∃ v, o.c.tmod 1000 = v := ⟨_, rfl⟩
  obtain ⟨d1, hd1⟩ : ∃ v, o.d.tmod 1000 = v := ⟨_, rfl⟩
  obtain ⟨d2, hd2⟩ : ∃ v, (if 0 < d1 then d1 else 0) = v := ⟨_, rfl⟩
  obtain ⟨g1, hg1⟩ : ∃ v, o.e.tmod 1000 = v := ⟨_, rfl⟩
  obtain ⟨gp, hgp⟩ : ∃ v, (if 0 < g1 then g1 else 0) = v := ⟨_, rfl⟩
  have n1 : -1000 < nr ∧ nr < 1000 := hnr ▸ tmod_1000 o.c
  have n2 : -1000 < d1 ∧ d1 < 1000 := hd1 ▸ tmod_1000 o.d
  have n3 : -1000 < g1 ∧ g1 < 1000 := hg1 ▸ tmod_1000 o.e
  have n4 : 0 ≤ d2 ∧ d2 < 1000 := by split at hd2 <;> omega
  have n5 : 0 ≤ gp ∧ gp < 1000 := by split at hgp <;> omega
  have a1 : a < H.length := by split at ha <;> split at hf1 <;> omega
  have a2 : a ≤ b := by split at hb <;> omega
  have a3 : b < H.length := by split at hb <;> split at hl1 <;> omega
  have e1 : IntKind.i64.wrap ((H.length : Int) - 1) = (H.length : Int) - 1 := IntWalk.i64_in _ (by omega)
  have e2 : IntKind.i64.wrap (1 + d2) = 1 + d2 := IntWalk.i64_in _ (by omega)
  have hA2 : ∀ W, Calls Try.prog 19 #[.pointer (some ⟨s, 0, none⟩)] (w2.drewN W) fun e w' => e = .returned (.int .i64 H.length) ∧ w2.drewN W = w' := fun W => ncols_any (HB.out.sky.drewN W)
  have HC := Lib.hid hA2
  clear hA2
  go_quiet ((go_at_call 19; exact quiet_left (HC.out _)))
  go_wp2
  go_quiet ((go_at_call 19; exact quiet_add_left (HC.out _)))
  go_wp2
  go_quiet (fail)
  clear t1 t2 t3 t4 t5 e1 e2
  generalize o.c = z1 at *
  have hM := mostOut_range HB.out.sky.low a b
  have h0 : colErr H.length (a : Int) (b : Int) = 0 := by unfold colErr; split <;> omega
  have H0 := Lib.hid h0
  have hmv : side * mostV side H a b = mostOut H a b := by rw [mostV, if_pos h0, side_side _ HB.out.sky.sides]
  obtain ⟨M, hMM⟩ : ∃ M, mostOut H a b = M := ⟨_, rfl⟩
  have e3 : IntKind.i64.wrap (side * mostV side H a b) = M := by rw [hmv, ← hMM]; exact IntWalk.i64_in _ (by omega)
  have HMM := Lib.hid hMM
  rw [hMM] at hM
  clear h0 hmv hMM hnr hd1 hd2 hg1 hgp hf1 hl1 ha hb
  have X5 := Lib.hid (fun (W3 W5 : World) (n : Nat) (x3 : Only [] w W3) (o5 : Only [g] (W3.drewN n) W5) (hg : w.heap.size ≤ g) => show Only [] w W5 from (((x3.drewN n).more (T := [g]) (by simp)).trans o5).less fun i hi hl => by
    simp at hi
    omega)
  have LG := HB.out.sky.row.lt
  by_cases hM5 : 524288 < M
  · rcases place_err (side := side) (near := nr) (high := 1 + d2) (gap := gp) a2 a3 n1 (by omega) n5 with hE | hE
    all_goals
      have HE := Lib.hid hE
      clear hE
      go_wp2_with (first
        | (go_at_call 32; refine (Clone_any (HB.out.sky.drewN _).gky).mono ?_; rintro e w3 ⟨sc, gc, capc, spc, rfl, hsc, hgc, CL, o3⟩; have B3 := Lib.hid ((HB.out.drewN _).only o3 (by simp) (by simp) (by simp) (by simp)); have X3 := (X2.out.drewN _).trans o3)
        | (have _s := SK5; go_at_call 18; refine (side_any S5.out).mono ?_; rintro e w6 ⟨rfl, rfl⟩)
        | (go_at_call 18; refine (side_any B3.out.sky).mono ?_; rintro e w4 ⟨rfl, rfl⟩)
        | (go_at_call 28; refine (mmost_any B3.out.mod _ _ H0.out).mono ?_; rintro e w4 ⟨rfl, n4, rfl⟩)
        | (go_at_call 22; refine (Place_any (B3.out.sky.drewN _) _ _ _ _ _).mono ?_; rintro e w5 ⟨rfl, SK5, o5⟩; rw [HE.out]))
      go_ret
      exact ⟨rfl, X5.out _ _ _ X3 o5 HGW.out⟩
  · have PW := placed_well (side := side) (near := nr) (high := 1 + d2) (gap := gp) HB.out.sky.sides HB.out.sky.low a2 a3 n1 (by omega) n5 (by rw [HMM.out]; omega)
    generalize edgeOf side H a b nr gp = E at PW
    obtain ⟨nv, hnv⟩ : ∃ nv, side * E = nv := ⟨_, rfl⟩
    obtain ⟨sn, hsn⟩ : ∃ sn, side * nr = sn := ⟨_, rfl⟩
    have hsides := HB.out.sky.sides
    have v1 := PW.eE
    have v2 := PW.e0
    have v3 := PW.e1
    have v4 := PW.e2
    have HV := Lib.hid (PW.val.trans hnv)
    have HE := Lib.hid PW.err
    rw [hsn] at v2 v4
    rw [HMM.out] at v3 v4
    have v5 : -1000 < sn ∧ sn < 1000 := by rcases hsides with e | e <;> rw [← hsn, e] <;> omega
    have v6 : -2000000 ≤ nv ∧ nv ≤ 2000000 := by rcases hsides with e | e <;> rw [← hnv, e] <;> omega
    have e4 : IntKind.i64.wrap (side * nv) = E := by rw [← hnv, side_side _ hsides]; exact IntWalk.i64_in _ (by omega)
    have e5 : IntKind.i64.wrap (side * nr) = sn := by rw [hsn]; exact IntWalk.i64_in _ (by omega)
    obtain ⟨bo, tp, hbt, HT1, HT2⟩ : ∃ bo tp, ((¬ side < 0 ∧ bo = nv ∧ tp = nv + (1 + d2)) ∨ (side < 0 ∧ bo = nv - (1 + d2) ∧ tp = nv)) ∧ Hid (touchB side H a b bo tp = false) ∧ Hid (touchB side (placeH side H a b nr (1 + d2) gp) a b bo tp = true) := by
      rcases hsides with e | e
      · have hn : nv = E := by rw [← hnv, e]; omega
        refine ⟨nv, nv + (1 + d2), .inl ⟨by omega, rfl, rfl⟩, Lib.hid ?_, Lib.hid ?_⟩
        · rw [hn]; exact PW.old1 e
        · rw [hn]; exact PW.new1 e
      · have hn : nv = -E := by rw [← hnv, e]; omega
        refine ⟨nv - (1 + d2), nv, .inr ⟨by omega, rfl, rfl⟩, Lib.hid ?_, Lib.hid ?_⟩
        · rw [hn]; exact PW.old2 e
        · rw [hn]; exact PW.new2 e
    clear PW hnv hsn hsides
    have hcase : (E = sn) ∨ ((E == sn) = false ∧ E = M + gp) := by
      by_cases e : E = sn
      · exact .inl e
      · exact .inr ⟨by simpa using e, by omega⟩
    clear v4
    rcases hbt with ⟨hsd, rfl, rfl⟩ | ⟨hsd, rfl, rfl⟩
    · rcases hcase with rfl | ⟨b1, rfl⟩
      all_goals
        go_wp2_with (first
          | (go_at_call 32; refine (Clone_any (HB.out.sky.drewN _).gky).mono ?_; rintro e w3 ⟨sc, gc, capc, spc, rfl, hsc, hgc, CL, o3⟩; have B3 := Lib.hid ((HB.out.drewN _).only o3 (by simp) (by simp) (by simp) (by simp)); have X3 := (X2.out.drewN _).trans o3; have hsc' : w2.heap.size ≤ sc := hsc; have hgc' : w2.heap.size ≤ gc := hgc)
          | (have _s := SK8; go_at_call 18; refine (side_any SK8.out).mono ?_; rintro e w9 ⟨rfl, rfl⟩)
          | (have _s := S5; go_at_call 18; refine (side_any S5.out).mono ?_; rintro e w6 ⟨rfl, rfl⟩)
          | (go_at_call 18; refine (side_any B3.out.sky).mono ?_; rintro e w4 ⟨rfl, rfl⟩)
          | (go_at_call 28; refine (mmost_any B3.out.mod _ _ H0.out).mono ?_; rintro e w4 ⟨rfl, n4, rfl⟩)
          | (go_at_call 22; refine (Place_any (B3.out.sky.drewN _) _ _ _ _ _).mono ?_; rintro e w5 ⟨rfl, SK5, o5⟩; rw [HV.out, HE.out]; have S5 := Lib.hid (SK5.alloc (.cells #[.int .i64 0, .int .i64 bo, .int .i64 0, .int .i64 (bo + (1 + d2))] 41)); have S5b := Lib.hid (SK5.alloc (.cells #[.int .i64 0, .int .i64 bo, .int .i64 0, .int .i64 (bo + (1 + d2))] 41)); have C5 := Lib.hid (((CL.drewN _).only o5 (by simp; omega) (by simp; omega)).alloc (.cells #[.int .i64 0, .int .i64 bo, .int .i64 0, .int .i64 (bo + (1 + d2))] 41)); have BX := Lib.hid (Blk.new w5 41 [.int .i64 0, .int .i64 bo, .int .i64 0, .int .i64 (bo + (1 + d2))]))
          | (have _s := SK7; go_at_call 24; refine (Touches_any SK7.out _ _ _ _ _ _).mono ?_; rintro e w8 ⟨rfl, o8⟩; rw [HT2.out]; have SK8 := Lib.hid (SK7.out.only o8 (by simp) (by simp)))
          | (go_at_call 24; refine (gTouches_any C5.out _ _ _ _ _ _).mono ?_; rintro e w7 ⟨rfl, o7⟩; rw [HT1.out]; have SK7 := Lib.hid (S5b.out.only o7 (by simp) (by simp)); have bx := BX.out.only o7 (by simp); have y0 := bx.cell 0; have y1 := bx.cell 1; have y2 := bx.cell 2; have y3 := bx.cell 3; simp at y0 y1 y2 y3))
        go_ret
        exact ⟨rfl, ((X5.out _ _ _ X3 o5 HGW.out).alloc _).trans (o7.trans o8)⟩
    · rcases hcase with rfl | ⟨b1, rfl⟩
      all_goals
        go_wp2_with (first
          | (go_at_call 32; refine (Clone_any (HB.out.sky.drewN _).gky).mono ?_; rintro e w3 ⟨sc, gc, capc, spc, rfl, hsc, hgc, CL, o3⟩; have B3 := Lib.hid ((HB.out.drewN _).only o3 (by simp) (by simp) (by simp) (by simp)); have X3 := (X2.out.drewN _).trans o3; have hsc' : w2.heap.size ≤ sc := hsc; have hgc' : w2.heap.size ≤ gc := hgc)
          | (have _s := SK8; go_at_call 18; refine (side_any SK8.out).mono ?_; rintro e w9 ⟨rfl, rfl⟩)
          | (have _s := S5; go_at_call 18; with_reducible refine (side_any S5b.out).mono ?_; rintro e w6 ⟨rfl, rfl⟩)
          | (have _s := S5; go_at_call 18; refine (side_any S5.out).mono ?_; rintro e w6 ⟨rfl, rfl⟩)
          | (go_at_call 18; refine (side_any B3.out.sky).mono ?_; rintro e w4 ⟨rfl, rfl⟩)
          | (go_at_call 28; refine (mmost_any B3.out.mod _ _ H0.out).mono ?_; rintro e w4 ⟨rfl, n4, rfl⟩)
          | (go_at_call 22; refine (Place_any (B3.out.sky.drewN _) _ _ _ _ _).mono ?_; rintro e w5 ⟨rfl, SK5, o5⟩; rw [HV.out, HE.out]; have S5 := Lib.hid (SK5.alloc (.cells #[.int .i64 0, .int .i64 tp, .int .i64 0, .int .i64 (tp + (1 + d2))] 41)); have S5b := Lib.hid (SK5.alloc (.cells #[.int .i64 0, .int .i64 (tp - (1 + d2)), .int .i64 0, .int .i64 tp] 41)); have C5 := Lib.hid (((CL.drewN _).only o5 (by simp; omega) (by simp; omega)).alloc (.cells #[.int .i64 0, .int .i64 (tp - (1 + d2)), .int .i64 0, .int .i64 tp] 41)); have BX := Lib.hid (Blk.new w5 41 [.int .i64 0, .int .i64 (tp - (1 + d2)), .int .i64 0, .int .i64 tp]))
          | (have _s := SK7; go_at_call 24; refine (Touches_any SK7.out _ _ _ _ _ _).mono ?_; rintro e w8 ⟨rfl, o8⟩; rw [HT2.out]; have SK8 := Lib.hid (SK7.out.only o8 (by simp) (by simp)))
          | (go_at_call 24; refine (gTouches_any C5.out _ _ _ _ _ _).mono ?_; rintro e w7 ⟨rfl, o7⟩; rw [HT1.out]; have SK7 := Lib.hid (S5b.out.only o7 (by simp) (by simp)); have bx := BX.out.only o7 (by simp); have y0 := bx.cell 0; have y1 := bx.cell 1; have y2 := bx.cell 2; have y3 := bx.cell 3; simp at y0 y1 y2 y3))
        go_ret
        exact ⟨rfl, ((X5.out _ _ _ X3 o5 HGW.out).alloc _).trans (o7.trans o8)⟩
end Go.Proofs.Ytblcgfmgfepajaa
