/- DERIVED. BeamClears: the walk, stems up. -/
import Derived.Test.YtglkpoiajebleaaVok
import Derived.Test.YtglkpoiajebleaaPrt
import Derived.Test.YtglkpoiajebleaaKnw
namespace Go.Proofs.Ytglkpoiajebleaa
open Go.RowKit

set_option maxRecDepth 20000 in
set_option maxHeartbeats 16000000 in
theorem clears_true {w : World} {A B : Option Addr} {ns : List Vn} {hs : List Vh} (c d : Nat) (hA : VnsAt w A ns) (hB : VhsAt w B hs) (o : Int) (ho : 0 ≤ o ∧ o ≤ 255) (wh : Int) (hw : 0 ≤ wh ∧ wh ≤ 255) :
    Calls Try.prog 5 #[voiV o A ns.length c B hs.length d, .int .u8 wh, .bool true] w fun e w' => e = .returned (.bool true) ∧ Only [] w w' := by
  have HM := Lib.hid fun w2 (oo : Only [] w w2) => make_any c d (hA.only oo) (hB.only oo) o ho
  have HNT := Lib.hid (voice_nt hA.ok hB.ok)
  have HVO := Lib.hid (voice_ok hA.ok hB.ok)
  have HVL := Lib.hid (show (voiceL ns hs).length ≤ 16 by rw [voiceL_len]; unfold vLen; omega)
  have O0 := Lib.hid ((Only.refl [] w).alloc (.cells #[.int .u8 o, .slice A ns.length c, .slice B hs.length d] 25))
  have BV := Lib.hid (Blk.new w 25 [.int .u8 o, .slice A ns.length c, .slice B hs.length d])
  obtain ⟨l, hl⟩ : ∃ l, voiceL ns hs = l := ⟨_, rfl⟩
  rw [hl] at HM HNT HVO HVL
  clear hA hB hl
  go_enter Try.func5, Try.ntmps5
  go_wp2_with (first
    | (go_at_call 9; refine (known_any _).mono ?_; rintro e w1 ⟨rfl, o1⟩; have O1 := Lib.hid (O0.out.trans o1); have bv := BV.out.only o1 (by simp); have q0 := bv.cell 0; have q1 := bv.cell 1; have q2 := bv.cell 2; simp only [List.getElem?_cons_zero, List.getElem?_cons_succ] at q0 q1 q2; clear bv)
    | (go_at_call 10; refine (HM.out _ O1.out).mono ?_; rintro e w2 ⟨v, rfl, hown, o2⟩; obtain ⟨A', c', rfl, -, hcap, hnt⟩ := own_notes hown; have O2 := Lib.hid (O1.out.trans o2); have NT := Lib.hid hnt; have HPRT := Lib.hid (part_any c' hnt (by have := HVL.out; omega) (fun x hx => ((HVO.out x hx).1).c2) wh hw); clear hnt hown q0 q1 q2)
    | (go_at_call 15; refine HPRT.out.mono ?_; rintro e w3 ⟨hp, o3⟩; have O3 := Lib.hid (O2.out.trans o3); have NT3 := Lib.hid (NT.out.only o3); rcases hp with ⟨F, K, hFK, hKl, hfl, rfl⟩ | rfl))
  · have hg := gE_of hFK hKl hfl
    have hl16 := HVL.out
    have hs := slopeTo_rng true l F K (K - F - 1)
    have hfr := fromE_rng (up := true) HNT.out hFK hKl
    have hs' : -128 ≤ slopeE true l F K ∧ slopeE true l F K ≤ 128 := hs
    have OG := Lib.hid ((Only.refl [] w3).alloc (.cells #[.int .i64 (F : Int), .int .i64 (K : Int)] 40))
    have BG := Lib.hid (Blk.new w3 40 [.int .i64 (F : Int), .int .i64 (K : Int)])
    have HPL := Lib.hid fun w4 (oo : Only [] w3 w4) => Place_true c' (NT3.out.only oo) (by omega) hcap HNT.out F K hFK hKl hg
    have HST := Lib.hid fun w4 (oo : Only [] w3 w4) => Stems_ok c' (NT3.out.only oo) (by omega) hcap HNT.out F K hFK hKl hg (fromE true l F K) (fromE true l F K + slopeE true l F K) (by omega) (by omega) (by omega)
    have hss : ∀ i, i < K - F + 1 → (stemsE l F K (fromE true l F K) (fromE true l F K + slopeE true l F K - fromE true l F K) (K - F + 1)).getD i 0 = stemE true l F K i := fun i hi => by
      unfold stemsE stemE
      rw [show fromE true l F K + slopeE true l F K - fromE true l F K = slopeE true l F K by omega]
      simp [List.getD, hi]
    have hsl := stemsE_len l F K (fromE true l F K) (fromE true l F K + slopeE true l F K - fromE true l F K) (K - F + 1)
    obtain ⟨ss, hss2⟩ : ∃ ss, stemsE l F K (fromE true l F K) (fromE true l F K + slopeE true l F K - fromE true l F K) (K - F + 1) = ss := ⟨_, rfl⟩
    simp only [hss2] at HST
    rw [hss2] at hsl
    simp only [hss2] at hss
    have HSS := Lib.hid hss
    have HSL := Lib.hid hsl
    have t3 : (ntAt l F).t < (ntAt l K).t := by
      rw [show ntAt l F = l[F] by simp [ntAt, show F < l.length by omega], show ntAt l K = l[K] by simp [ntAt, hKl]]
      have := ntE_mono HNT.out hFK hKl
      have := (ntE_ok l none HNT.out l[F] (List.getElem_mem _)).c1
      omega
    have HLAST := Lib.hid (stem_last true l F K (by omega) t3)
    have HFST := Lib.hid (stem_first true l F K)
    obtain ⟨fr, hfr2⟩ : ∃ fr, fromE true l F K = fr := ⟨_, rfl⟩
    obtain ⟨sl, hsl2⟩ : ∃ sl, slopeE true l F K = sl := ⟨_, rfl⟩
    rw [hfr2] at HFST HLAST hfr
    rw [hsl2] at HLAST hs'
    simp only [hfr2, hsl2] at HPL HST
    obtain ⟨n, hn⟩ : ∃ n, K - F + 1 = n := ⟨_, rfl⟩
    have hn2 : (K : Int) - (F : Int) + 1 = (n : Int) := by omega
    have wk1 : IntKind.i64.wrap ((K : Int) - (F : Int)) = (K : Int) - (F : Int) := IntWalk.i64_in _ (by omega)
    have wk2 : IntKind.i64.wrap ((K : Int) - (F : Int) + 1) = (K : Int) - (F : Int) + 1 := IntWalk.i64_in _ (by omega)
    simp only [hn] at HST HSS HSL
    have wk3 : IntKind.i64.wrap (n : Int) = (n : Int) := IntWalk.i64_in _ (by omega)
    have hb1 : ((n : Int) != (n : Int)) = false := by simp
    have HNN := Lib.hid hn
    have HFK := Lib.hid hFK
    have HKL := Lib.hid hKl
    clear hg hs hss hss2 hsl t3 hfr2 hsl2 hn hFK hKl hfl
    go_wp2_with (first
      | (go_at_call 16; refine (HPL.out _ OG.out).mono ?_; rintro e w4 ⟨rfl, o4⟩; have O4 := Lib.hid ((OG.out.trans o4).alloc (.cells #[.int .i64 fr, .int .i64 (fr + sl)] 54)); have bg := BG.out.only (o4.alloc (.cells #[.int .i64 fr, .int .i64 (fr + sl)] 54)) (by simp); have q0 := bg.cell 0; have q1 := bg.cell 1; simp only [List.getElem?_cons_zero, List.getElem?_cons_succ] at q0 q1; have BG4 := Lib.hid bg; have BL := Lib.hid (Blk.new w4 54 [.int .i64 fr, .int .i64 (fr + sl)]); clear bg)
      | (go_at_call 17; refine (HST.out _ O4.out).mono ?_; rintro e w5 ⟨v5, rfl, hown, o5⟩; obtain ⟨D, cD, rfl, -, hD⟩ := own_ints hown; have O5 := Lib.hid (O4.out.trans o5); have bg := BG4.out.only o5 (by simp); have q0 := bg.cell 0; have q1 := bg.cell 1; have bl := BL.out.only o5 (by simp); have x0 := bl.cell 0; have x1 := bl.cell 1; simp only [List.getElem?_cons_zero, List.getElem?_cons_succ] at q0 q1 x0 x1; have BG5 := Lib.hid bg; have BL5 := Lib.hid bl; have HD := Lib.hid hD; clear bg bl hown hD))
    clear wk1 wk2 wk3 hn2 hb1 q0 q1 x0 x1
    go_loopw [16, 17] (fun ex i wr => ∃ j : Nat, j ≤ n ∧ i = .int .i64 j ∧ ex = .bool ((List.range j).any (exB true l F K)) ∧ Only [] w5 wr) (fun _ i _ => n - (intOf i).toNat)
    case atStart => exact ⟨0, by omega, rfl, rfl, Only.refl _ _⟩
    case round =>
      obtain ⟨j, hj, rfl, rfl, hO⟩ := hrel
      have HO := Lib.hid hO
      have hl16 := HVL.out
      clear hO
      have bg := BG5.out.only HO.out (by simp)
      have bl := BL5.out.only HO.out (by simp)
      have q0 := bg.cell 0
      have q1 := bg.cell 1
      have x0 := bl.cell 0
      have x1 := bl.cell 1
      simp only [List.getElem?_cons_zero, List.getElem?_cons_succ] at q0 q1 x0 x1
      clear bg bl
      by_cases hlt : j < n
      · have hi : F + j < l.length := by have := HNN.out; have := HKL.out; have := HFK.out; omega
        have hjs : j < ss.length := by rw [HSL.out]; exact hlt
        obtain ⟨D0, rfl, -, hDs, cs0⟩ := HD.out j hjs
        have cs := (HO.out.cell (p := ⟨D0, j, none⟩) hDs (by simp)).trans cs0
        have es : ss[j] = stemE true l F K j := by rw [← HSS.out j hlt]; simp [List.getD, hjs]
        rw [es] at cs
        have hge := stem_ge true l F K j (by have := HFK.out; omega) (by rw [HNN.out]; exact hlt)
        have hsr := stem_rng (up := true) HNT.out HFK.out HKL.out j (by rw [HNN.out]; exact hlt)
        have ex : ntAt l (F + j) = l[F + j] := by simp [ntAt, hi]
        have hxo := HVO.out l[F + j] (List.getElem_mem _)
        obtain ⟨b', off', rfl, hb', hcs⟩ := (NT3.out.only (O5.out.trans HO.out)) (F + j) hi
        rw [← ex] at hcs hxo
        have m0 := hcs 0 (by omega)
        have m1 := hcs 1 (by omega)
        have m2 := hcs 2 (by omega)
        have m3 := hcs 3 (by omega)
        have m4 := hcs 4 (by omega)
        have m5 := hcs 5 (by omega)
        simp only [Nt.vs, List.getElem?_cons_zero, List.getElem?_cons_succ, Nat.add_zero] at m0 m1 m2 m3 m4 m5
        have HEX : Hid (exB true l F K j = (decide (outE true l F K j - sgn true * (ntAt l (F + j)).hd = 160) || decide (outE true l F K j - 32 = sgn true * (ntAt l (F + j)).cl))) := Lib.hid rfl
        have HOU : Hid (outE true l F K j = sgn true * stemE true l F K j - 48 * ((ntAt l (F + j)).fl - 1)) := Lib.hid rfl
        obtain ⟨x, hx⟩ : ∃ x, ntAt l (F + j) = x := ⟨_, rfl⟩
        rw [hx] at m0 m1 m2 m3 m4 m5 hxo hge HEX HOU
        have fi1 : (0 : Int) ≤ (F : Int) + (j : Int) := by omega
        have fi2 : (F : Int) + (j : Int) < (l.length : Int) := by omega
        have j0 : (0 : Int) ≤ (j : Int) := by omega
        have j1 : (j : Int) < (n : Int) := by omega
        have wfj : IntKind.i64.wrap ((F : Int) + (j : Int)) = ((F + j : Nat) : Int) := by rw [IntWalk.i64_in _ (by omega)]; omega
        clear hcs hx ex es cs0 hjs
        obtain ⟨S, hS⟩ : ∃ S, stemE true l F K j = S := ⟨_, rfl⟩
        rw [hS] at cs HOU hsr
        obtain ⟨OU, hOU⟩ : ∃ OU, outE true l F K j = OU := ⟨_, rfl⟩
        rw [hOU] at HOU HEX hge
        have hou : S - 48 * (x.fl - 1) = OU := by rw [HOU.out]; simp only [sgn, if_true, if_false, Bool.false_eq_true]; omega
        have hfl := hxo.1.c2
        have hhd := hxo.2.2.1
        have hcl := hxo.2.2.2
        have w1 : IntKind.i64.wrap (x.fl - 1) = x.fl - 1 := IntWalk.i64_in _ (by omega)
        have w2 : IntKind.i64.wrap (48 * (x.fl - 1)) = 48 * (x.fl - 1) := IntWalk.i64_in _ (by omega)
        have w3 : IntKind.i64.wrap S = S := IntWalk.i64_in _ (by omega)
        have w4 : IntKind.i64.wrap (-S) = -S := IntWalk.i64_in _ (by omega)
        have w5' : IntKind.i64.wrap OU = OU := IntWalk.i64_in _ (by omega)
        have w6 : IntKind.i64.wrap (OU - 32) = OU - 32 := IntWalk.i64_in _ (by omega)
        have w7 : IntKind.i64.wrap x.hd = x.hd := IntWalk.i64_in _ (by omega)
        have w8 : IntKind.i64.wrap (-x.hd) = -x.hd := IntWalk.i64_in _ (by omega)
        have w9 : IntKind.i64.wrap x.cl = x.cl := IntWalk.i64_in _ (by omega)
        have w10 : IntKind.i64.wrap (-x.cl) = -x.cl := IntWalk.i64_in _ (by omega)
        have oa := HO.out.alloc (ntBox x)
        have OA := Lib.hid oa
        have cs2 := ((Only.refl [] wr).alloc (ntBox x)).cell (p := ⟨D0, j, none⟩) (by have := HO.out.size; show D0 < wr.heap.size; omega) (by simp)
        rw [cs] at cs2
        have w11 : IntKind.i64.wrap (OU - x.hd) = OU - x.hd := IntWalk.i64_in _ (by omega)
        have d1 : ¬ OU - x.hd < 160 := by have := hge.1; simp only [sgn, if_true, if_false, Bool.false_eq_true] at this; omega
        have d2 : ¬ OU - 32 < x.cl := by have := hge.2; simp only [sgn, if_true, if_false, Bool.false_eq_true] at this; omega
        have HANY : Hid ((List.range (j + 1)).any (exB true l F K) = ((List.range j).any (exB true l F K) || exB true l F K j)) := Lib.hid (by rw [List.range_succ, List.any_append]; simp)
        obtain ⟨X, hX⟩ : ∃ X, (List.range j).any (exB true l F K) = X := ⟨_, rfl⟩
        rw [hX] at HANY ⊢
        obtain ⟨b1, hb1⟩ : ∃ b1, ((OU - x.hd) == (160 : Int)) = b1 := ⟨_, rfl⟩
        obtain ⟨b2, hb2⟩ : ∃ b2, ((OU - 32) == x.cl) = b2 := ⟨_, rfl⟩
        have HE2 : Hid ((List.range (j + 1)).any (exB true l F K) = (X || b1 || b2)) := Lib.hid (by
          rw [HANY.out, HEX.out, ← hb1, ← hb2, Bool.or_assoc]
          congr 1
          simp only [sgn, if_true, if_false, Bool.false_eq_true, Bool.beq_eq_decide_eq]
          congr 1 <;> exact decide_eq_decide.2 (by omega))
        clear hge hxo hS hOU hX HANY oa
        cases X
        · cases b1
          · cases b2
            · go_wp2_with fail
              go_quiet (fail)
              go_wp2
              go_roundw
              case rel => exact ⟨j + 1, by omega, by go_num, by rw [HE2.out]; rfl, by first | exact OA.out.drewN _ | exact (OA.out.drewN _).drewN _ | exact ((OA.out.drewN _).drewN _).drewN _⟩
              case measure => simp [intOf]; omega
              
            · go_wp2_with fail
              go_quiet (fail)
              go_wp2
              go_roundw
              case rel => exact ⟨j + 1, by omega, by go_num, by rw [HE2.out]; rfl, by first | exact OA.out.drewN _ | exact (OA.out.drewN _).drewN _ | exact ((OA.out.drewN _).drewN _).drewN _⟩
              case measure => simp [intOf]; omega
              
          · go_wp2_with fail
            go_quiet (fail)
            go_wp2
            go_roundw
            case rel => exact ⟨j + 1, by omega, by go_num, by rw [HE2.out]; rfl, by first | exact OA.out.drewN _ | exact (OA.out.drewN _).drewN _ | exact ((OA.out.drewN _).drewN _).drewN _⟩
            case measure => simp [intOf]; omega
            
        · go_wp2_with fail
          go_quiet (fail)
          go_wp2
          go_roundw
          case rel => exact ⟨j + 1, by omega, by go_num, by rw [HE2.out]; rfl, by first | exact OA.out.drewN _ | exact (OA.out.drewN _).drewN _ | exact ((OA.out.drewN _).drewN _).drewN _⟩
          case measure => simp [intOf]; omega
          
      · have ej : j = n := by omega
        subst ej
        have hex : (List.range j).any (exB true l F K) = true := by
          obtain ⟨i, hi, he⟩ := stem_exact true l F K
          rw [HNN.out] at hi
          exact List.any_eq_true.2 ⟨i, by simpa using hi, he⟩
        rw [hex]
        have hn0 : 0 < j := by have := HNN.out; omega
        have hj1 : K - F < j := by have := HNN.out; omega
        obtain ⟨D0, rfl, -, hDs, cs0⟩ := HD.out 0 (by rw [HSL.out]; exact hn0)
        obtain ⟨D1, e1, -, hDs1, cs1⟩ := HD.out (K - F) (by rw [HSL.out]; exact hj1)
        simp only [Option.some.injEq, Addr.mk.injEq, and_true] at e1
        subst e1
        have f0 := HSS.out 0 hn0
        have f1 := HSS.out (K - F) hj1
        rw [HFST.out] at f0
        rw [HLAST.out] at f1
        have s0 : ss[0]'(by rw [HSL.out]; exact hn0) = fr := by rw [← f0]; simp [List.getD, HSL.out, hn0]
        have s1 : ss[K - F]'(by rw [HSL.out]; have := HNN.out; omega) = fr + sl := by
          rw [← f1]
          simp [List.getD, show K - F < ss.length by rw [HSL.out]; have := HNN.out; omega]
        rw [s0] at cs0
        rw [s1] at cs1
        have e0 := (HO.out.cell (p := ⟨D0, 0, none⟩) hDs (by simp)).trans cs0
        have e1 := (HO.out.cell (p := ⟨D0, K - F, none⟩) hDs1 (by simp)).trans cs1
        have hjb : j ≤ 17 := by have := HNN.out; have := HKL.out; omega
        have wn1 : IntKind.i64.wrap ((j : Int) - 1) = ((K - F : Nat) : Int) := by rw [IntWalk.i64_in _ (by omega)]; have := HNN.out; omega
        have n1 : (0 : Int) < (j : Int) := by omega
        have n2 : ((K - F : Nat) : Int) < (j : Int) := by have := HNN.out; omega
        have n3 : (0 : Int) ≤ ((K - F : Nat) : Int) := by omega
        have y1 : IntKind.i64.wrap (fr + sl - fr) = sl := by rw [IntWalk.i64_in _ (by omega)]; omega
        have y2 : IntKind.i64.wrap (fr - (fr + sl)) = -sl := by rw [IntWalk.i64_in _ (by omega)]; omega
        have y3 : sl ≤ 128 := by omega
        have y4 : -sl ≤ 128 := by omega
        clear s0 s1 f0 f1 cs0 cs1 hex
        have eq0 : (fr == fr) = true := by simp
        have eq1 : (fr + sl == fr + sl) = true := by simp
        go_wp2_with fail
        go_quiet (fail)
        go_wp2
        go_ret
        exact ⟨ret_bool (by simp [y3, y4]), ((O3.out.trans O5.out).trans HO.out).drewN _⟩
  · go_ret
    exact ⟨rfl, O3.out.alloc _⟩
end Go.Proofs.Ytglkpoiajebleaa
