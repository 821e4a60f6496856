/- DERIVED. Contracts of package beam: Place of proper notes, stems up. -/
import Derived.Test.YtglkpoiajebleaaPlq
namespace Go.Proofs.Ytglkpoiajebleaa
open Go.RowKit

set_option maxRecDepth 20000 in
set_option maxHeartbeats 16000000 in
theorem Place_true {w : World} {A : Option Addr} {l : List Nt} (c : Nat) (h : NotesAt w A l) (hl : l.length ≤ 128) (hcap : l.length ≤ c) (hn : ntE none l = 0) (F K : Nat) (h1 : F < K) (h2 : K < l.length) (hg : gE l F K = 0) :
    Calls Try.prog 16 #[.slice A l.length c, grpV F K, .bool true] w fun e w' => e = .returned (.tuple #[.agg #[.int .i64 (fromE true l F K), .int .i64 (fromE true l F K + slopeE true l F K)], .int .i64 0]) ∧ Only [] w w' := by
  have HN := Lib.hid fun w2 (o : Only [] w w2) => checkNotes_any c (h.only o) hl
  have HG := Lib.hid fun w2 (o : Only [] w w2) => checkGroup_all c (h.only o) hl hcap F K
  have HR := Lib.hid fun w2 (o : Only [] w w2) (s t : Int) (s1 : -128 ≤ s) (s2 : s ≤ 128) (t1 : (ntAt l F).t ≤ t) (t2 : t ≤ (ntAt l K).t) => rise_at c (h.only o) hl hn F K h1 h2 s t s1 s2 t1 t2
  have HNT := Lib.hid hn
  have H := Lib.hid h
  rw [hn] at HN
  rw [hg] at HG
  have O0 := Lib.hid (((Only.refl [] w).alloc (.cells #[.int .i64 (F : Int), .int .i64 (K : Int)] 40)).alloc (.cells #[.int .i64 0, .int .i64 0] 54))
  have BB := Lib.hid ((Blk.new w 40 [.int .i64 (F : Int), .int .i64 (K : Int)]).alloc (.cells #[.int .i64 0, .int .i64 0] 54))
  have BL := Lib.hid (Blk.new (w.alloc (.cells #[.int .i64 (F : Int), .int .i64 (K : Int)] 40)) 54 [.int .i64 0, .int .i64 0])
  have es : (w.alloc (.cells #[.int .i64 (F : Int), .int .i64 (K : Int)] 40)).heap.size = w.heap.size + 1 := by simp
  rw [es] at BL
  have hF : F < l.length := by omega
  have eF : ntAt l F = l[F] := by simp [ntAt, hF]
  have eK : ntAt l K = l[K] := by simp [ntAt, h2]
  have okF := ntE_ok l none hn l[F] (List.getElem_mem _)
  have okK := ntE_ok l none hn l[K] (List.getElem_mem _)
  have hdF := okF.c4
  have hdK := okK.c4
  obtain ⟨b, off, rfl, hb, hc⟩ := h F hF
  obtain ⟨b', off', hA', hb', hd⟩ := h K h2
  simp only [Option.some.injEq, Addr.mk.injEq, and_true] at hA'
  obtain ⟨rfl, rfl⟩ := hA'
  have m4 := hc 4 (by omega)
  have m4' := hd 4 (by omega)
  simp only [Nt.vs, List.getElem?_cons_zero, List.getElem?_cons_succ] at m4 m4'
  rw [← eF] at m4 hdF
  rw [← eK] at m4' hdK
  have HC4 := Lib.hid (show ∀ w2, Only [] w w2 → w2.cell? ⟨b, off + F * 6 + 4, none⟩ = some (.int .i64 (ntAt l F).hd) ∧ w2.cell? ⟨b, off + K * 6 + 4, none⟩ = some (.int .i64 (ntAt l K).hd) from fun w2 o => ⟨(o.cell hb (by simp)).trans m4, (o.cell hb (by simp)).trans m4'⟩)
  clear hc hd hg hn es m4 m4' h okF okK eF eK hb
  have f0 : (0 : Int) ≤ (F : Int) := by omega
  have f1 : (F : Int) < (l.length : Int) := by omega
  have f2 : (0 : Int) ≤ (K : Int) := by omega
  have f3 : (K : Int) < (l.length : Int) := by omega
  have f4 : (F : Int) < (K : Int) := by omega
  have f5 : (0 : Int) ≤ (F : Int) + 1 := by omega
  have f6 : (F : Int) + 1 ≤ (K : Int) := by omega
  have f7 : (K : Int) ≤ (c : Int) := by omega
  obtain ⟨A0, hA0⟩ : ∃ A0, (ntAt l F).hd = A0 := ⟨_, rfl⟩
  obtain ⟨A1, hA1⟩ : ∃ A1, (ntAt l K).hd = A1 := ⟨_, rfl⟩
  rw [hA0] at HC4 hdF
  rw [hA1] at HC4 hdK
  have HA0 := Lib.hid hA0
  have HA1 := Lib.hid hA1
  have k1 : IntKind.i64.wrap (A1 - A0) = A1 - A0 := IntWalk.i64_in _ (by omega)
  have hdd := tdiv2_rng (a := A1 - A0) (M := 2097152) (by omega) (by omega)
  have k2 : IntKind.i64.wrap (Int.tdiv (A1 - A0) 2) = Int.tdiv (A1 - A0) 2 := IntWalk.i64_in _ (by omega)
  obtain ⟨D, hD⟩ : ∃ D, Int.tdiv (A1 - A0) 2 = D := ⟨_, rfl⟩
  rw [hD] at k2
  have HS0 := Lib.hid (show slope0 A0 A1 = min (max D (-128)) 128 by unfold slope0; rw [hD])
  obtain ⟨n1, hn1⟩ : ∃ n1, K - (F + 1) = n1 := ⟨_, rfl⟩
  obtain ⟨n2, hn2⟩ : ∃ n2, K + 1 - F = n2 := ⟨_, rfl⟩
  have w0 : IntKind.i64.wrap A0 = A0 := IntWalk.i64_in _ (by omega)
  have w1' : IntKind.i64.wrap A1 = A1 := IntWalk.i64_in _ (by omega)
  have w2' : IntKind.i64.wrap (-A0) = -A0 := IntWalk.i64_in _ (by omega)
  have w3' : IntKind.i64.wrap (-A1) = -A1 := IntWalk.i64_in _ (by omega)
  clear hA0 hA1
  go_enter Try.func16, Try.ntmps16
  go_wp2_with (first
    | (go_at_call 28; refine (HN.out _ O0.out).mono ?_; rintro e w1 ⟨rfl, o1⟩; have O1 := Lib.hid (O0.out.trans o1); have B1 := Lib.hid (BB.out.only o1 (by simp)); have q0 := B1.out.cell 0; have q1 := B1.out.cell 1; simp only [List.getElem?_cons_zero, List.getElem?_cons_succ] at q0 q1)
    | (go_at_call 29; refine (HG.out _ O1.out).mono ?_; rintro e w2 ⟨rfl, o2⟩; have O2 := Lib.hid (O1.out.trans o2); have B2 := Lib.hid (B1.out.only o2 (by simp)); have L2 := Lib.hid (BL.out.only (o1.trans o2) (by simp)); have q0 := B2.out.cell 0; have q1 := B2.out.cell 1; obtain ⟨c4, c4'⟩ := HC4.out _ O2.out; simp only [List.getElem?_cons_zero, List.getElem?_cons_succ] at q0 q1))
  go_quiet (fail)
  go_wp2_with fail
  have O2' := Lib.hid (O2.out.drewN nq)
  have HN1 := Lib.hid hn1
  have HF := Lib.hid f4
  have HK := Lib.hid f3
  clear k1 k2 hdF hdK hD hdd c4 c4' q0 q1 hn1 f4 f6
  go_loopw [12, 61] (fun s i wr => ∃ j : Nat, j ≤ n1 ∧ i = .int .i64 j ∧ s = .int .i64 (slopeTo true l F K j) ∧ Only [] w2 wr) (fun _ i _ => n1 - (intOf i).toNat)
  case atStart => exact ⟨0, by omega, rfl, by rw [← HS0.out]; simp only [slopeTo, HA0.out, HA1.out], (Only.refl [] w2).drewN nq⟩
  case round =>
    obtain ⟨j, hj, rfl, rfl, hO⟩ := hrel
    have HO := Lib.hid (O2.out.trans hO)
    by_cases hlt : j < n1
    · have hi : F + 1 + j < l.length := by have := HN1.out; omega
      have hxh := (ntE_ok l none HNT.out l[F + 1 + j] (List.getElem_mem _)).c4
      have ex : ntAt l (F + 1 + j) = l[F + 1 + j] := by simp [ntAt, hi]
      obtain ⟨b', off', hA', hb', hcs⟩ := (H.out.only HO.out) (F + 1 + j) hi
      simp only [Option.some.injEq, Addr.mk.injEq, and_true] at hA'
      obtain ⟨rfl, rfl⟩ := hA'
      rw [show off + (F + 1 + j) * 6 = off + (F + 1) * 6 + j * 6 by omega, ← ex] at hcs
      rw [← ex] at hxh
      have m0 := hcs 0 (by omega)
      have m1 := hcs 1 (by omega)
      have m2 := hcs 2 (by omega)
      have m3 := hcs 3 (by omega)
      have m4 := hcs 4 (by omega)
      have m5 := hcs 5 (by omega)
      simp only [Nt.vs, List.getElem?_cons_zero, List.getElem?_cons_succ, Nat.add_zero] at m0 m1 m2 m3 m4 m5
      clear hcs ex
      obtain ⟨x, hx⟩ : ∃ x, ntAt l (F + 1 + j) = x := ⟨_, rfl⟩
      rw [hx] at m0 m1 m2 m3 m4 m5 hxh
      have HX := Lib.hid hx
      clear hx
      have j0 : (0 : Int) ≤ (j : Int) := by omega
      have j1 : (j : Int) < (n1 : Int) := by omega
      have hOa := hO.alloc (ntBox x)
      have Ba := B2.out.only hOa (by simp)
      have q0 := Ba.cell 0
      have q1 := Ba.cell 1
      obtain ⟨c4, c4'⟩ := HC4.out _ (O2.out.trans hOa)
      simp only [List.getElem?_cons_zero, List.getElem?_cons_succ] at q0 q1
      have HOA := Lib.hid hOa
      clear hO hOa Ba
      obtain ⟨ba, hba⟩ : ∃ ba, decide (A0 < x.hd) = ba := ⟨_, rfl⟩
      obtain ⟨bb, hbb⟩ : ∃ bb, decide (A1 < x.hd) = bb := ⟨_, rfl⟩
      have wx : IntKind.i64.wrap x.hd = x.hd := IntWalk.i64_in _ (by omega)
      have wx' : IntKind.i64.wrap (-x.hd) = -x.hd := IntWalk.i64_in _ (by omega)
      have HBA := Lib.hid hba
      have HBB := Lib.hid hbb
      cases ba
      · have nb := Lib.hid (show ¬ (sgn true * A0 < sgn true * x.hd ∧ sgn true * A1 < sgn true * x.hd) by have := of_decide_eq_false HBA.out; simp only [sgn, if_true, if_false, Bool.false_eq_true]; omega)
        go_wp2_with fail
        go_quiet (fail)
        go_wp2
        go_roundw
        case rel =>
          refine ⟨j + 1, by omega, by go_num, ?_, HOA.out.drewN nq⟩
          rw [slopeTo, HX.out, HA0.out, HA1.out, if_neg nb.out]
        case measure => simp [intOf]; omega
      · cases bb
        · have nb := Lib.hid (show ¬ (sgn true * A0 < sgn true * x.hd ∧ sgn true * A1 < sgn true * x.hd) by have := of_decide_eq_false HBB.out; simp only [sgn, if_true, if_false, Bool.false_eq_true]; omega)
          go_wp2_with fail
          go_quiet (fail)
          go_wp2
          go_roundw
          case rel =>
            refine ⟨j + 1, by omega, by go_num, ?_, HOA.out.drewN nq⟩
            rw [slopeTo, HX.out, HA0.out, HA1.out, if_neg nb.out]
          case measure => simp [intOf]; omega
        · have nb := Lib.hid (show sgn true * A0 < sgn true * x.hd ∧ sgn true * A1 < sgn true * x.hd by have := of_decide_eq_true HBA.out; have := of_decide_eq_true HBB.out; simp only [sgn, if_true, if_false, Bool.false_eq_true]; omega)
          go_wp2_with fail
          go_quiet (fail)
          go_wp2
          go_roundw
          case rel =>
            refine ⟨j + 1, by omega, by go_num, ?_, HOA.out.drewN nq⟩
            rw [slopeTo, HX.out, HA0.out, HA1.out, if_pos nb.out]
          case measure => simp [intOf]; omega
    · obtain rfl : j = n1 := by omega
      have HSE := Lib.hid (show slopeE true l F K = slopeTo true l F K j by unfold slopeE; rw [show K - F - 1 = j by have := HN1.out; omega])
      have hs := slopeTo_rng true l F K j
      obtain ⟨s, hs0⟩ : ∃ s, slopeTo true l F K j = s := ⟨_, rfl⟩
      rw [hs0] at HSE hs ⊢
      have hb2 := B2.out.only hO (by simp)
      have q0 := hb2.cell 0
      have q1 := hb2.cell 1
      simp only [List.getElem?_cons_zero, List.getElem?_cons_succ] at q0 q1
      have hf8 := HF.out
      have hf9 := HK.out
      have f8 : (F : Int) ≤ (K : Int) + 1 := by omega
      have f9 : (K : Int) + 1 ≤ (c : Int) := by omega
      have f10 : (0 : Int) ≤ (K : Int) + 1 := by omega
      have k9 : IntKind.i64.wrap ((K : Int) + 1) = (K : Int) + 1 := IntWalk.i64_in _ (by omega)
      clear hs0 hf8 hf9 hb2
      have OX := Lib.hid hO
      clear hO
      go_wp2_with fail
      have O3 := Lib.hid OX.out
      clear q0 q1 f5 f8 f9 f10 k9
      go_loopw [15, 102] (fun o i wr => ∃ j : Nat, j ≤ n2 ∧ i = .int .i64 j ∧ o = .int .i64 (fromTo true l F K s j) ∧ Hid (-2000000 ≤ fromTo true l F K s j ∧ fromTo true l F K s j ≤ 2000000) ∧ Only [] w2 wr) (fun _ i _ => n2 - (intOf i).toNat)
      case atStart => exact ⟨0, by omega, rfl, rfl, Lib.hid (by simp [fromTo]), OX.out⟩
      case round =>
        obtain ⟨j, hj, rfl, rfl, HFR, hO⟩ := hrel
        by_cases hlt : j < n2
        · have hi : F + j < l.length := by have := hn2; have := HK.out; omega
          have hKl : K < l.length := by have := HK.out; omega
          have hFK : F < K := by have := HF.out; omega
          have hxo := ntE_ok l none HNT.out l[F + j] (List.getElem_mem _)
          have ex : ntAt l (F + j) = l[F + j] := by simp [ntAt, hi]
          have eF : ntAt l F = l[F] := by simp [ntAt, show F < l.length by omega]
          have eK : ntAt l K = l[K] := by simp [ntAt, hKl]
          have t1 : (ntAt l F).t ≤ (ntAt l (F + j)).t := by rw [ex, eF]; exact ntE_le HNT.out (by omega) hi
          have t2 : (ntAt l (F + j)).t ≤ (ntAt l K).t := by rw [ex, eK]; exact ntE_le HNT.out (by omega) hKl
          have t3 : (ntAt l F).t < (ntAt l K).t := by
            rw [eF, eK]
            have := ntE_mono HNT.out hFK hKl
            have := (ntE_ok l none HNT.out l[F] (List.getElem_mem _)).c1
            omega
          have hr := riseE_rng hs.1 hs.2 t1 t2 t3
          obtain ⟨b', off', hA', hb', hcs⟩ := (H.out.only (O2.out.trans hO)) (F + j) hi
          simp only [Option.some.injEq, Addr.mk.injEq, and_true] at hA'
          obtain ⟨rfl, rfl⟩ := hA'
          rw [show off + (F + j) * 6 = off + F * 6 + j * 6 by omega, ← ex] at hcs
          rw [← ex] at hxo
          have m0 := hcs 0 (by omega)
          have m1 := hcs 1 (by omega)
          have m2 := hcs 2 (by omega)
          have m3 := hcs 3 (by omega)
          have m4 := hcs 4 (by omega)
          have m5 := hcs 5 (by omega)
          simp only [Nt.vs, List.getElem?_cons_zero, List.getElem?_cons_succ, Nat.add_zero] at m0 m1 m2 m3 m4 m5
          obtain ⟨x, hx⟩ : ∃ x, ntAt l (F + j) = x := ⟨_, rfl⟩
          rw [hx] at m0 m1 m2 m3 m4 m5 hxo t1 t2 hr
          have HX := Lib.hid hx
          have hnr := needE_rng (up := true) hxo
          have HRS := Lib.hid fun w3 (o : Only [] w w3) => HR.out w3 o s x.t hs.1 hs.2 t1 t2
          have hfl := hxo.c2
          have hhd := hxo.c4
          have hcl := hxo.c5
          clear hcs ex hx eF eK t1 t2 t3 hxo hi hKl hFK
          obtain ⟨I, hI⟩ : ∃ I, (x.fl - 1) * 48 = I := ⟨_, rfl⟩
          have wf : IntKind.i64.wrap (x.fl - 1) = x.fl - 1 := IntWalk.i64_in _ (by omega)
          have wi : IntKind.i64.wrap I = I := IntWalk.i64_in _ (by omega)
          have wa : IntKind.i64.wrap (160 + I) = 160 + I := IntWalk.i64_in _ (by omega)
          have wb : IntKind.i64.wrap (32 + I) = 32 + I := IntWalk.i64_in _ (by omega)
          have wc : IntKind.i64.wrap (-(160 + I)) = -(160 + I) := IntWalk.i64_in _ (by omega)
          have wd : IntKind.i64.wrap (-(32 + I)) = -(32 + I) := IntWalk.i64_in _ (by omega)
          have we : IntKind.i64.wrap (x.hd + (160 + I)) = x.hd + (160 + I) := IntWalk.i64_in _ (by omega)
          have wg : IntKind.i64.wrap (x.cl + (32 + I)) = x.cl + (32 + I) := IntWalk.i64_in _ (by omega)
          obtain ⟨nd, hnd⟩ : ∃ nd, needE true x = nd := ⟨_, rfl⟩
          obtain ⟨rr, hrr⟩ : ∃ rr, riseE l F K s x.t = rr := ⟨_, rfl⟩
          have HND := Lib.hid hnd
          have HRR := Lib.hid hrr
          rw [hnd] at hnr
          rw [hrr] at hr
          simp only [hrr] at HRS
          have HNE : Hid (far true (x.hd + (160 + I)) (x.cl + (32 + I)) = nd) := Lib.hid (by rw [← hnd, ← hI]; simp only [needE, sgn, if_true, if_false, Bool.false_eq_true]; congr 1 <;> omega)
          have HF1 : Hid (∀ w3, Calls Try.prog 30 #[.int .i64 (x.hd + (160 + I)), .int .i64 (x.cl + (32 + I))] w3 fun e w' => e = .returned (.int .i64 nd) ∧ w3 = w') := Lib.hid fun w3 => by
            have := max_fn (x.hd + (160 + I)) (x.cl + (32 + I)) w3
            rw [HNE.out] at this
            exact this
          have wn : IntKind.i64.wrap (nd - rr) = nd - rr := IntWalk.i64_in _ (by omega)
          obtain ⟨n, hnn⟩ : ∃ n, nd - rr = n := ⟨_, rfl⟩
          have HNN := Lib.hid hnn
          have hnR : -1050128 ≤ n ∧ n ≤ 1050128 := by omega
          rw [hnn] at wn
          have HNR := Lib.hid hnR
          have HF2 := Lib.hid fun a w3 => max_fn a n w3
          clear hnd hrr hnr hr hfl hhd hcl hnR
          have j0 : (0 : Int) ≤ (j : Int) := by omega
          have j1 : (j : Int) < (n2 : Int) := by omega
          obtain ⟨fj, hfj⟩ : ∃ fj, fromTo true l F K s j = fj := ⟨_, rfl⟩
          rw [hfj] at HFR ⊢
          have HFJ := Lib.hid hfj
          have hOa := hO.alloc (ntBox x)
          have Ba := Lib.hid (B2.out.only hOa (by simp))
          have HOA := Lib.hid hOa
          have BX := Lib.hid (Blk.new wr 42 [.int .i64 x.t, .int .i64 x.len, .int .i64 x.fl, .int .i64 x.st, .int .i64 x.hd, .int .i64 x.cl])
          have q0 := Ba.out.cell 0
          have q1 := Ba.out.cell 1
          simp only [List.getElem?_cons_zero, List.getElem?_cons_succ] at q0 q1
          clear hO hOa hfj
          have HFN := Lib.hid (show nE true l F K s (F + j) = n by unfold nE; rw [HX.out, HND.out, HRR.out, HNN.out])
          by_cases hz : j = 0
          · have HZ := Lib.hid hz
            have hz1 : ((j : Int) == 0) = true := by simp [hz]
            clear hz
            go_wp2_with (first
              | (go_at_call 30; with_reducible refine (HF1.out _).mono ?_; rintro e w' ⟨rfl, rfl⟩)
              | (go_at_call 32; refine (HRS.out _ (O2.out.trans HOA.out)).mono ?_; rintro e w5 ⟨rfl, o5⟩; have O5 := Lib.hid (HOA.out.trans o5))
              | (go_at_call 30; with_reducible refine (HF2.out _ _).mono ?_; rintro e w' ⟨rfl, rfl⟩))
            go_roundw
            case rel =>
              have hrg := far_rng (up := true) (a := n) (b := n) (m := -2000000) (M := 2000000) (by have := HNR.out; omega) (by have := HNR.out; omega)
              refine ⟨j + 1, by omega, by go_num, ?_, Lib.hid ?_, O5.out⟩
              · rw [fromTo, if_pos HZ.out, HFN.out]
              · rw [fromTo, if_pos HZ.out, HFN.out]; exact hrg
            case measure => simp [intOf]; omega
          · have HZ := Lib.hid hz
            have hz1 : ((j : Int) == 0) = false := by simp [hz]
            clear hz
            go_wp2_with (first
              | (go_at_call 30; with_reducible refine (HF1.out _).mono ?_; rintro e w' ⟨rfl, rfl⟩)
              | (go_at_call 32; refine (HRS.out _ (O2.out.trans HOA.out)).mono ?_; rintro e w5 ⟨rfl, o5⟩; have O5 := Lib.hid (HOA.out.trans o5))
              | (go_at_call 30; with_reducible refine (HF2.out _ _).mono ?_; rintro e w' ⟨rfl, rfl⟩))
            go_roundw
            case rel =>
              have hrg := far_rng (up := true) (a := fj) (b := n) (m := -2000000) (M := 2000000) HFR.out (by have := HNR.out; omega)
              refine ⟨j + 1, by omega, by go_num, ?_, Lib.hid ?_, O5.out⟩
              · rw [fromTo, if_neg HZ.out, HFN.out, HFJ.out]
              · rw [fromTo, if_neg HZ.out, HFN.out, HFJ.out]; exact hrg
            case measure => simp [intOf]; omega
        · have ej : j = K - F + 1 := by have := hn2; have := HF.out; omega
          have HFE := Lib.hid (show fromE true l F K = fromTo true l F K s j by unfold fromE; rw [HSE.out, ← ej])
          obtain ⟨fj, hfj⟩ : ∃ fj, fromTo true l F K s j = fj := ⟨_, rfl⟩
          rw [hfj] at HFE HFR ⊢
          have hfr := HFR.out
          have ws : IntKind.i64.wrap (fj + s) = fj + s := IntWalk.i64_in _ (by omega)
          have L3 := Lib.hid (L2.out.only hO (by simp))
          have l0 := L3.out.cell 0
          have l1 := L3.out.cell 1
          have z0 := L3.out.frozen 0
          have z1 := L3.out.frozen 1
          simp only [List.getElem?_cons_zero, List.getElem?_cons_succ] at l0 l1
          have O9 := Lib.hid (O2.out.trans hO)
          clear hfj ej hO hs hfr
          go_wp2_with fail
          have B9 := (L3.out.set_ 0 (.int .i64 fj)).set_ 1 (.int .i64 (fj + s))
          have c0 := B9.cell 0
          have c1 := B9.cell 1
          simp only [List.set_cons_zero, List.set_cons_succ, List.getElem?_cons_zero, List.getElem?_cons_succ] at c0 c1
          refine bodyPost_ret (v := .tuple #[.agg #[.int .i64 fj, .int .i64 (fj + s)], .int .i64 0]) (by simp [results, Try.results16, go_sem, c0, c1]) rfl ⟨by rw [HFE.out, HSE.out], ?_⟩
          exact (O9.out.setCell (p := ⟨w.heap.size + 1, 0, none⟩) (.inr (by simp)) _).setCell (p := ⟨w.heap.size + 1, 1, none⟩) (.inr (by simp)) _
end Go.Proofs.Ytglkpoiajebleaa
