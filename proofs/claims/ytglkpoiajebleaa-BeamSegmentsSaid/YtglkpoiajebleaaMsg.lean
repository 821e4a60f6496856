/- DERIVED. The statements of chapter 26: segments. -/
import Derived.Test.YtglkpoiajebleaaHok
namespace Go.Proofs.Ytglkpoiajebleaa
open Go.RowKit

theorem beatE_plc (m : Met) (gs : List Int) (t : Int) : beatE m gs t = t - (plc m gs t).2.2 := rfl

set_option maxRecDepth 20000 in
set_option maxHeartbeats 400000000 in
theorem msegments_any {w : World} {A : Option Addr} {l : List Nt} (m : Met) (gs : List Int) (hG : GrpC m gs) (hgl : gs.length ≤ 64) (hg0 : 0 < gs.length) (hg : ∀ x ∈ gs, 0 ≤ x ∧ x ≤ 64) (off : Int) (c : Nat) (h : NotesAt w A l) (hl : l.length ≤ 128) (hb : allE m off l = 0) (F K : Nat) (hFK : F < K) (hKl : K < l.length) :
    Calls Try.prog 19 #[metV m, .int .i64 off, .slice A l.length c, grpV F K] w fun e w' => ∃ v, e = .returned v ∧ w'.ownsRow w.heap.size 49 4 v (segsTo m gs off l F K 6).length (sCells (segsTo m gs off l F K 6)) ∧ Only [] w w' := by
  obtain ⟨i0, hi0, hz0, hz1, hz2⟩ := info_parts seg_info
  obtain ⟨hck, hof, hnt, hlt⟩ := allE_zero hb
  have H := Lib.hid h
  have HTR : Hid (∀ i, i < l.length → 0 ≤ off + (ntAt l i).t ∧ off + (ntAt l i).t ≤ 4398046511104) := Lib.hid fun i hi => by
    rw [show ntAt l i = l[i] by simp [ntAt, hi]]
    have := (ntE_ok l none hnt _ (List.getElem_mem hi)).c0
    have := hlt _ (List.getElem_mem hi)
    omega
  have HBT := Lib.hid fun (t : Int) (h1 : 0 ≤ t) (h2 : t ≤ 4398046511104) => beat_any m hck gs hG hgl hg t h1 h2
  have HHOOK := Lib.hid fun (w2 : World) (o : Only [] w w2) (i : Nat) (h1 : F ≤ i) (h2 : i ≤ K) => mhook_any m gs hG hgl hg0 hg off c (h.only o) hl hb F K i h1 h2 hKl
  have O0 := Lib.hid (((Only.refl [] w).alloc (metBox m)).alloc (.cells #[.int .i64 (F : Int), .int .i64 (K : Int)] 40))
  have BG := Lib.hid (Blk.new (w.alloc (metBox m)) 40 [.int .i64 (F : Int), .int .i64 (K : Int)])
  have BM := Lib.hid (show Blk ((w.alloc (metBox m)).alloc (.cells #[.int .i64 (F : Int), .int .i64 (K : Int)] 40)) w.heap.size 36 (metL m) from (Blk.new w 36 (metL m)).alloc _)
  rw [show (w.alloc (metBox m)).heap.size = w.heap.size + 1 by simp] at BG
  have HF := Lib.hid hFK
  have HK := Lib.hid hKl
  obtain ⟨b0, off0, rfl, hb0, -⟩ := h F (by omega)
  have HB0 := Lib.hid hb0
  clear h hb hck hof hnt hlt hG hgl hg0 hg hb0
  go_enter Try.func19, Try.ntmps19
  go_wp2_with fail
  obtain ⟨V, hV⟩ : ∃ V, (w.alloc (metBox m)).alloc (.cells #[.int .i64 (F : Int), .int .i64 (K : Int)] 40) = V := ⟨_, rfl⟩
  unfold metBox at hV BG BM O0
  rw [hV] at BG BM O0 ⊢
  clear hV
  go_loopw [9, 10] (fun o kv wr => ∃ (kk : Nat) (v : Value), kk ≤ 6 ∧ kv = .int .i64 ((kk : Int) + 1) ∧ v = o ∧ wr.ownsRow V.heap.size 49 4 v (segsTo m gs off l F K kk).length (sCells (segsTo m gs off l F K kk)) ∧ Only [] V wr) (fun _ kv _ => (7 - intOf kv).toNat)
  case atStart => exact ⟨0, _, by omega, by go_num, rfl, World.ownsRow_nil _ _ _ _, Only.refl _ _⟩
  case round =>
    obtain ⟨kk, v, hkk, rfl, rfl, hown, hO⟩ := hrel
    by_cases hkM : kk < 6
    · have HKM := Lib.hid hkM
      have hbg := BG.out.only hO (by simp)
      have q0 := hbg.cell 0
      have q1 := hbg.cell 1
      simp only [List.getElem?_cons_zero, List.getElem?_cons_succ] at q0 q1
      have HRK := Lib.hid (show segsTo m gs off l F K (kk + 1) = segsTo m gs off l F K kk ++ segK m gs off l F K ((kk : Int) + 1) F from rfl)
      have hlen := segsTo_len m gs off l F K (kk + 1)
      obtain ⟨RK, hRK⟩ : ∃ RK, segsTo m gs off l F K (kk + 1) = RK := ⟨_, rfl⟩
      rw [hRK] at HRK hlen
      have HKR := Lib.hid hRK
      have hkp : (kk + 1) * (K + 1) ≤ 6 * 128 := Nat.mul_le_mul (by omega) (by omega)
      have HLEN := Lib.hid (Nat.le_trans hlen hkp)
      obtain ⟨pre0, hpre⟩ : ∃ pre0, segsTo m gs off l F K kk = pre0 := ⟨_, rfl⟩
      rw [hpre] at HRK hown
      obtain ⟨k, hk⟩ : ∃ k, (kk : Int) + 1 = k := ⟨_, rfl⟩
      rw [hk] at HRK ⊢
      have HK0 := Lib.hid hk
      have hk1 : 1 ≤ k ∧ k ≤ 6 := by omega
      have HO := Lib.hid hO
      have HOWN := Lib.hid hown
      clear hlen hkp hRK hpre hk hbg hown hO hkM hkk
      obtain ⟨V2, rfl⟩ : ∃ V2, V2 = wr := ⟨_, rfl⟩
      go_wp2_with fail
      go_loopw [9, 11] (fun o fv wr => ∃ (i : Nat) (pre : List Sg) (v : Value), F ≤ i ∧ i ≤ K + 1 ∧ fv = .int .i64 i ∧ v = o ∧ Hid (pre ++ segK m gs off l F K k i = RK) ∧ wr.ownsRow V.heap.size 49 4 v pre.length (sCells pre) ∧ Only [] V wr) (fun _ fv _ => K + 1 - (intOf fv).toNat)
      case atStart => exact ⟨F, pre0, _, by omega, by omega, rfl, rfl, Lib.hid HRK.out.symm, HOWN.out, HO.out⟩
      case round =>
        obtain ⟨i, pre, v, hi1, hi2, rfl, rfl, HPR, hown, hO⟩ := hrel
        have hOO := hO
        have hbg := BG.out.only hOO (by simp)
        have q0 := hbg.cell 0
        have q1 := hbg.cell 1
        simp only [List.getElem?_cons_zero, List.getElem?_cons_succ] at q0 q1
        by_cases hiK : i ≤ K
        · have hil : i < l.length := by omega
          have ex : ntAt l i = l[i] := by simp [ntAt, hil]
          obtain ⟨b', off', hA', hb', hcs⟩ := (H.out.only (O0.out.trans hOO)) i hil
          simp only [Option.some.injEq, Addr.mk.injEq, and_true] at hA'
          obtain ⟨rfl, rfl⟩ := hA'
          rw [← ex] at hcs
          have m2 := hcs 2 (by omega)
          simp only [Nt.vs, List.getElem?_cons_zero, List.getElem?_cons_succ] at m2
          have HSK := Lib.hid fun hf => segF_skip (goesOn m gs off l k) (hookE m gs off l F K) (fun i => (ntAt l i).fl) k (K + 1) i (by omega) hf
          have HTK := Lib.hid fun hf => segF_take (goesOn m gs off l k) (hookE m gs off l F K) (fun i => (ntAt l i).fl) k (K + 1) i (by omega) hf
          obtain ⟨xf, hxf⟩ : ∃ xf, (ntAt l i).fl = xf := ⟨_, rfl⟩
          rw [hxf] at m2
          simp only [hxf] at HSK HTK
          have i0 : (0 : Int) ≤ (i : Int) := by omega
          have i1 : (i : Int) < (l.length : Int) := by omega
          have i2 : (i : Int) ≤ (K : Int) := by omega
          have HO3 := Lib.hid hO
          have HOW3 := Lib.hid hown
          have HII := Lib.hid hiK
          clear hcs hb' ex hxf hbg hOO hown hO
          obtain ⟨V3, rfl⟩ : ∃ V3, V3 = wr := ⟨_, rfl⟩
          by_cases hfk : xf < k
          · have HS := Lib.hid (HSK.out hfk)
            go_wp2_with fail
            go_roundw
            case rel => exact ⟨i + 1, pre, _, by omega, by have := HII.out; omega, by go_num, rfl, Lib.hid (by rw [← HPR.out]; unfold segK; rw [HS.out]), HOW3.out, HO3.out⟩
            case measure => have := HII.out; simp [intOf]; omega
          · have HT := Lib.hid (HTK.out hfk)
            have hKle := runK_le (goesOn m gs off l k) (K + 1) (K + 1) i
            obtain ⟨E, hE⟩ : ∃ E, runK (goesOn m gs off l k) (K + 1) (K + 1) i = E := ⟨_, rfl⟩
            rw [hE] at HT hKle
            have HE := Lib.hid hE
            clear hE
            go_wp2_with fail
            go_loopw [12] (fun ev wr => ∃ e : Nat, i ≤ e ∧ e ≤ K ∧ ev = .int .i64 e ∧ Hid (runK (goesOn m gs off l k) (K + 1) (K + 1) e = E) ∧ Only [] V3 wr) (fun ev _ => K - (intOf ev).toNat)
            case atStart => exact ⟨i, by omega, HII.out, rfl, HE, Only.refl _ _⟩
            case round =>
              obtain ⟨e, he1, he2, rfl, HEE, hO4⟩ := hrel
              have hO3 := HO3.out.trans hO4
              have hOO := hO3
              have hbg := BG.out.only hOO (by simp)
              have q0 := hbg.cell 0
              have q1 := hbg.cell 1
              simp only [List.getElem?_cons_zero, List.getElem?_cons_succ] at q0 q1
              have HO4 := Lib.hid hO4
              have BGR := Lib.hid hbg
              have qn : ∀ i : Near [] wr, i.W.cell? ⟨w.heap.size + 1, 1, none⟩ = some (.int .i64 (K : Int)) := fun i => (BGR.out.only i.only (by simp)).cell 1
              have e0 : (0 : Int) ≤ (e : Int) := by omega
              by_cases heK : e < K
              · have hil : e + 1 < l.length := by omega
                have ex : ntAt l (e + 1) = l[e + 1] := by simp [ntAt, hil]
                obtain ⟨b', off', hA', hb', hcs⟩ := (H.out.only (O0.out.trans hOO)) (e + 1) hil
                simp only [Option.some.injEq, Addr.mk.injEq, and_true] at hA'
                obtain ⟨rfl, rfl⟩ := hA'
                rw [← ex] at hcs
                have m0 := hcs 0 (by omega)
                have m2 := hcs 2 (by omega)
                simp only [Nt.vs, List.getElem?_cons_zero, List.getElem?_cons_succ, Nat.add_zero] at m0 m2
                have htr := HTR.out (e + 1) hil
                have HP := Lib.hid (HBT.out (off + (ntAt l (e + 1)).t) htr.1 htr.2)
                have HC : Hid (goesOn m gs off l k e = (decide (k ≤ (ntAt l (e + 1)).fl) && !(decide (1 < k) && ((plc m gs (off + (ntAt l (e + 1)).t)).2.2 == 0)))) := Lib.hid rfl
                obtain ⟨y, hy⟩ : ∃ y, ntAt l (e + 1) = y := ⟨_, rfl⟩
                rw [hy] at m0 m2 HP HC htr
                have hbp := beatE_plc m gs (off + y.t)
                obtain ⟨pp, hpp⟩ : ∃ pp, plc m gs (off + y.t) = pp := ⟨_, rfl⟩
                obtain ⟨zb, hzb⟩ : ∃ zb, beatE m gs (off + y.t) = zb := ⟨_, rfl⟩
                rw [hpp] at HC hbp
                rw [hzb] at HP hbp
                obtain ⟨pa, pb, pc⟩ := pp
                dsimp only at HC hbp
                have wy : IntKind.i64.wrap (off + y.t) = off + y.t := IntWalk.i64_in _ (by omega)
                have wye : IntKind.i64.wrap ((e : Int) + 1) = (e : Int) + 1 := IntWalk.i64_in _ (by omega)
                have e1 : (e : Int) < (K : Int) := by omega
                have e2 : (0 : Int) ≤ (e : Int) + 1 := by omega
                have e3 : (e : Int) + 1 < (l.length : Int) := by omega
                have hmc := (met_cells BM.out hOO)
                obtain ⟨bmr, c0, c1, c2, c3, c4, c5, c6, c7⟩ := hmc
                have BMR := Lib.hid bmr
                have HEK := Lib.hid heK
                have k0 : ∀ i : Near [] wr, i.W.cell? ⟨b0, off0 + (e + 1) * 6, none⟩ = some (.int .i64 y.t) := fun i => (i.only.cell (by assumption) (by simp)).trans m0
                have k2 : ∀ i : Near [] wr, i.W.cell? ⟨b0, off0 + (e + 1) * 6 + 2, none⟩ = some (.int .i64 y.fl) := fun i => (i.only.cell (by assumption) (by simp)).trans m2
                obtain ⟨n0, n1, n2, n3, n4, n5, n6, n7⟩ := met_near BMR.out
                by_cases hky : k ≤ y.fl
                · obtain ⟨r1, hr1⟩ : ∃ r1, (k == 1) = r1 := ⟨_, rfl⟩
                  obtain ⟨r2, hr2⟩ : ∃ r2, (zb != off + y.t) = r2 := ⟨_, rfl⟩
                  have HC2 := Lib.hid (show goesOn m gs off l k e = (r1 || r2) by
                    have a1 : decide (1 < k) = !r1 := by
                      rw [← hr1]
                      by_cases hk : k = 1
                      · subst hk; rfl
                      · rw [decide_eq_true (by omega)]; simpa using hk
                    have a2 : (pc == 0) = !r2 := by
                      rw [← hr2]
                      by_cases hp : pc = 0
                      · have : zb = off + y.t := by omega
                        simp [hp, this]
                      · have : zb ≠ off + y.t := by omega
                        rw [show (pc == 0) = false by simpa using hp, show (zb != off + y.t) = true by simpa using this]; rfl
                    rw [HC.out, a1, a2, decide_eq_true hky, Bool.true_and]
                    cases r1 <;> cases r2 <;> rfl)
                  have HR1 := Lib.hid hr1
                  have HR2 := Lib.hid hr2
                  clear hcs ex hy hpp hbg hOO hO3 hO4 htr bmr hzb hbp
                  go_wp2_with fail
                  cases r1
                  · have hr1 := HR1.out
                    go_wp2_with fail
                    refine wp_near [] (by kernel_rfl) (by kernel_rfl) ?_
                    repeat (go_big_quiet_step ((go_at_call 35; exact near_call _ (HP.out _))))
                    refine wpQuiet_nil ?_
                    intro ni
                    obtain ⟨WQ, pq⟩ := ni
                    dsimp only
                    have OX := Lib.hid (HO4.out.trans pq)
                    clear n0 n1 n2 n3 n4 n5 n6 n7 k0 k2 qn c0 c1 c2 c3 c4 c5 c6 c7 m0 m2 HP HC pq q0 q1
                    cases r2
                    · have EE := Lib.hid (show e = E by rw [← HEE.out, runK_end _ _ _ (by omega) (by rw [HC2.out]; simp)])
                      have OW2 := Lib.hid (HO3.out.trans OX.out)
                      have OWN := Lib.hid (own_only HOW3.out OX.out (by simp))
                      have HOB := Lib.hid (fun q hq => (OWN.out.lt q hq).1)
                      have hpl : pre.length ≤ 768 := by
                        have h1 := HLEN.out
                        have h2 := congrArg List.length HPR.out
                        rw [List.length_append] at h2
                        omega
                      have hwz := OW2.out.size
                      have HEK2 := Lib.hid (show e ≤ K by omega)
                      by_cases hie : i = e
                      · subst hie
                        have HCL := Lib.hid fun (X : World) (o : Only [] (WQ.alloc (.cells #[.int .i64 k, .int .i64 i, .int .i64 i, .int .i64 0] 49)) X) => HHOOK.out X ((O0.out.trans (OW2.out.alloc (.cells #[.int .i64 k, .int .i64 i, .int .i64 i, .int .i64 0] 49))).trans o) i hi1 HII.out
                        obtain ⟨hv, hhv⟩ : ∃ hv, hookE m gs off l F K i i = hv := ⟨_, rfl⟩
                        simp only [hhv, grpV] at HCL
                        have HHK := Lib.hid hhv
                        have z1 : ((i : Int) == (i : Int)) = true := by simp
                        have BS := Lib.hid (Blk.new WQ 49 [.int .i64 k, .int .i64 i, .int .i64 i, .int .i64 0])
                        have BGX := Lib.hid (BG.out.only (OW2.out.alloc (.cells #[.int .i64 k, .int .i64 i, .int .i64 i, .int .i64 0] 49)) (by simp))
                        have BMX := Lib.hid (BM.out.only (OW2.out.alloc (.cells #[.int .i64 k, .int .i64 i, .int .i64 i, .int .i64 0] 49)) (by simp))
                        clear hhv
                        try clear hbg
                        have hc := (met_cells BMX.out (Only.refl [] _)).2
                        obtain ⟨c0, c1, c2, c3, c4, c5, c6, c7⟩ := hc
                        have g0 := BGX.out.cell 0
                        have g1 := BGX.out.cell 1
                        simp only [List.getElem?_cons_zero, List.getElem?_cons_succ] at g0 g1
                        go_wp2_with (first
                          | (go_at_call 36; refine (HCL.out _ (Only.refl [] _)).mono ?_; rintro e w8 ⟨rfl, o8⟩; have BT := Lib.hid (BS.out.only o8 (by simp)); have OT := Lib.hid ((OW2.out.alloc (.cells #[.int .i64 k, .int .i64 i, .int .i64 i, .int .i64 0] 49)).trans o8); have OWT := Lib.hid (own_only (OWN.out.alloc (.cells #[.int .i64 k, .int .i64 i, .int .i64 i, .int .i64 0] 49)) o8 (by simp)); have hts := OT.out.size; have hts2 := o8.size; have y0 := BT.out.cell 0; have y1 := BT.out.cell 1; have y2 := BT.out.cell 2; have y3 := BT.out.cell 3; have y4 := BT.out.frozen 3; simp only [List.getElem?_cons_zero, List.getElem?_cons_succ] at y0 y1 y2 y3; clear c0 c1 c2 c3 c4 c5 c6 c7 g0 g1 o8; have BU := Lib.hid (BT.out.set_ 3 (.int .i64 hv)); have OU := Lib.hid (OT.out.setCell (p := ⟨WQ.heap.size, 3, none⟩) (.inr (by show V.heap.size ≤ WQ.heap.size; omega)) (.int .i64 hv)); have OWU := Lib.hid (own_set OWT.out (p := ⟨WQ.heap.size, 3, none⟩) (fun q hq => by have := (OWN.out.lt q hq).2; show q ≠ WQ.heap.size; omega) (.int .i64 hv)); have x0 := BU.out.cell 0; have x1 := BU.out.cell 1; have x2 := BU.out.cell 2; have x3 := BU.out.cell 3; simp only [List.set_cons_zero, List.set_cons_succ, List.getElem?_cons_zero, List.getElem?_cons_succ] at x0 x1 x2 x3; have HNEWS := Lib.hid (World.news_of_block (heap_alloc_new (w8.setCell ⟨WQ.heap.size, 3, none⟩ (.int .i64 hv)) (.cells #[.int .i64 k, .int .i64 i, .int .i64 i, .int .i64 hv] 49))); rw [show (w8.setCell ⟨WQ.heap.size, 3, none⟩ (.int .i64 hv)).heap.size = w8.heap.size by simp [World.setCell]] at HNEWS)
                          | (at_builtin; refine wpList_append_lies _ rfl _ _ _ rfl V.heap.size 49 _ _ 4 32 Try.underlying44 hi0 hz0 hz1 hz2 rfl (by omega) v pre.length _ rfl (OWU.out.alloc _) ⟨w8.heap.size, 0, none⟩ 1 1 [.int .i64 k, .int .i64 i, .int .i64 i, .int .i64 hv] rfl rfl HNEWS.out (by simp [Value.oneCell']) (by omega) (by simp only [maxLen]; omega) (by omega) (by simp [World.setCell]; omega) (w8.heap.size + 1) (by simp [World.setCell]) ?_; intro gg cap w5 hown5 hgrow hat hlt5))
                        go_roundw
                        case rel =>
                          refine ⟨i + 1, pre ++ [⟨k, i, i, hv⟩], _, by omega, by have := HEK2.out; omega, by go_num, rfl, Lib.hid ?_, ?_, (OU.out.alloc _).grown hgrow fun q hq => .inr (HOB.out q hq)⟩
                          · rw [← HPR.out]
                            unfold segK
                            rw [HT.out, ← EE.out, HHK.out, List.append_assoc]
                            rfl
                          · rw [sCells_snoc, List.length_append]
                            exact hown5
                        case measure => have := HII.out; simp [intOf]; omega
                      · have HHK := Lib.hid (show hookE m gs off l F K i e = 0 by unfold hookE; rw [if_neg hie])
                        have z1 : ((i : Int) == (e : Int)) = false := by
                          have : ¬ ((i : Int) = (e : Int)) := by omega
                          simpa using this
                        have z1n : (i == e) = false := by simpa using hie
                        have HNEWS := Lib.hid (World.news_of_block (heap_alloc_new (WQ.alloc (.cells #[.int .i64 k, .int .i64 i, .int .i64 e, .int .i64 0] 49)) (.cells #[.int .i64 k, .int .i64 i, .int .i64 e, .int .i64 0] 49)))
                        rw [show (WQ.alloc (.cells #[.int .i64 k, .int .i64 i, .int .i64 e, .int .i64 0] 49)).heap.size = WQ.heap.size + 1 by simp] at HNEWS
                        try clear hbg
                        go_wp2_with (at_builtin; refine wpList_append_lies _ rfl _ _ _ rfl V.heap.size 49 _ _ 4 32 Try.underlying44 hi0 hz0 hz1 hz2 rfl (by omega) v pre.length _ rfl ((OWN.out.alloc _).alloc _) ⟨WQ.heap.size + 1, 0, none⟩ 1 1 [.int .i64 k, .int .i64 i, .int .i64 e, .int .i64 0] rfl rfl HNEWS.out (by simp [Value.oneCell']) (by omega) (by simp only [maxLen]; omega) (by omega) (by simp; omega) (WQ.heap.size + 1 + 1) (by simp) ?_; intro gg cap w5 hown5 hgrow hat hlt5)
                        go_roundw
                        case rel =>
                          refine ⟨e + 1, pre ++ [⟨k, i, e, 0⟩], _, by omega, by have := HEK2.out; omega, by go_num, rfl, Lib.hid ?_, ?_, ((OW2.out.alloc _).alloc _).grown hgrow fun q hq => .inr (HOB.out q hq)⟩
                          · rw [← HPR.out]
                            unfold segK
                            rw [HT.out, ← EE.out, HHK.out, List.append_assoc]
                            rfl
                          · rw [sCells_snoc, List.length_append]
                            exact hown5
                        case measure => have := HII.out; simp [intOf]; omega
                    · have HER := Lib.hid (show runK (goesOn m gs off l k) (K + 1) (K + 1) (e + 1) = E by rw [← HEE.out]; exact (runK_step _ _ _ (by omega) (by rw [HC2.out]; simp)).symm)
                      go_wp2_with fail
                      go_roundw
                      case rel => exact ⟨e + 1, by omega, by have := HEK.out; omega, by go_num, HER, OX.out⟩
                      case measure => have := HEK.out; simp [intOf]; omega
                  · have hr1 := HR1.out
                    go_wp2_with fail
                    refine wp_near [] (by kernel_rfl) (by kernel_rfl) ?_
                    repeat (go_big_quiet_step (fail))
                    refine wpQuiet_nil ?_
                    intro ni
                    obtain ⟨WQ, pq⟩ := ni
                    dsimp only
                    have OX := Lib.hid (HO4.out.trans pq)
                    clear n0 n1 n2 n3 n4 n5 n6 n7 k0 k2 qn c0 c1 c2 c3 c4 c5 c6 c7 m0 m2 HP HC pq q0 q1
                    have HER := Lib.hid (show runK (goesOn m gs off l k) (K + 1) (K + 1) (e + 1) = E by rw [← HEE.out]; exact (runK_step _ _ _ (by omega) (by rw [HC2.out]; simp)).symm)
                    go_wp2_with fail
                    go_roundw
                    case rel => exact ⟨e + 1, by omega, by have := HEK.out; omega, by go_num, HER, OX.out⟩
                    case measure => have := HEK.out; simp [intOf]; omega
                · have dky : decide (k ≤ y.fl) = false := decide_eq_false hky
                  have HC2 := Lib.hid (show goesOn m gs off l k e = false by rw [HC.out, decide_eq_false hky, Bool.false_and])
                  have EE := Lib.hid (show e = E by rw [← HEE.out, runK_end _ _ _ (by omega) (by rw [HC2.out]; simp)])
                  clear c0 c1 c2 c3 c4 c5 c6 c7 HP HC hcs ex hy hpp hbg hOO hO3 hO4 htr bmr hzb hbp HC2
                  go_wp2_with fail
                  refine wp_near [] (by kernel_rfl) (by kernel_rfl) ?_
                  repeat (go_big_quiet_step (fail))
                  refine wpQuiet_nil ?_
                  intro ni
                  obtain ⟨WQ, pq⟩ := ni
                  dsimp only
                  have OX := Lib.hid (HO4.out.trans pq)
                  clear pq q0 q1 n0 n1 n2 n3 n4 n5 n6 n7 k0 k2 qn
                  have OW2 := Lib.hid (HO3.out.trans OX.out)
                  have OWN := Lib.hid (own_only HOW3.out OX.out (by simp))
                  have HOB := Lib.hid (fun q hq => (OWN.out.lt q hq).1)
                  have hpl : pre.length ≤ 768 := by
                    have h1 := HLEN.out
                    have h2 := congrArg List.length HPR.out
                    rw [List.length_append] at h2
                    omega
                  have hwz := OW2.out.size
                  have HEK2 := Lib.hid (show e ≤ K by omega)
                  by_cases hie : i = e
                  · subst hie
                    have HCL := Lib.hid fun (X : World) (o : Only [] (WQ.alloc (.cells #[.int .i64 k, .int .i64 i, .int .i64 i, .int .i64 0] 49)) X) => HHOOK.out X ((O0.out.trans (OW2.out.alloc (.cells #[.int .i64 k, .int .i64 i, .int .i64 i, .int .i64 0] 49))).trans o) i hi1 HII.out
                    obtain ⟨hv, hhv⟩ : ∃ hv, hookE m gs off l F K i i = hv := ⟨_, rfl⟩
                    simp only [hhv, grpV] at HCL
                    have HHK := Lib.hid hhv
                    have z1 : ((i : Int) == (i : Int)) = true := by simp
                    have BS := Lib.hid (Blk.new WQ 49 [.int .i64 k, .int .i64 i, .int .i64 i, .int .i64 0])
                    have BGX := Lib.hid (BG.out.only (OW2.out.alloc (.cells #[.int .i64 k, .int .i64 i, .int .i64 i, .int .i64 0] 49)) (by simp))
                    have BMX := Lib.hid (BM.out.only (OW2.out.alloc (.cells #[.int .i64 k, .int .i64 i, .int .i64 i, .int .i64 0] 49)) (by simp))
                    clear hhv
                    try clear hbg
                    have hc := (met_cells BMX.out (Only.refl [] _)).2
                    obtain ⟨c0, c1, c2, c3, c4, c5, c6, c7⟩ := hc
                    have g0 := BGX.out.cell 0
                    have g1 := BGX.out.cell 1
                    simp only [List.getElem?_cons_zero, List.getElem?_cons_succ] at g0 g1
                    go_wp2_with (first
                      | (go_at_call 36; refine (HCL.out _ (Only.refl [] _)).mono ?_; rintro e w8 ⟨rfl, o8⟩; have BT := Lib.hid (BS.out.only o8 (by simp)); have OT := Lib.hid ((OW2.out.alloc (.cells #[.int .i64 k, .int .i64 i, .int .i64 i, .int .i64 0] 49)).trans o8); have OWT := Lib.hid (own_only (OWN.out.alloc (.cells #[.int .i64 k, .int .i64 i, .int .i64 i, .int .i64 0] 49)) o8 (by simp)); have hts := OT.out.size; have hts2 := o8.size; have y0 := BT.out.cell 0; have y1 := BT.out.cell 1; have y2 := BT.out.cell 2; have y3 := BT.out.cell 3; have y4 := BT.out.frozen 3; simp only [List.getElem?_cons_zero, List.getElem?_cons_succ] at y0 y1 y2 y3; clear c0 c1 c2 c3 c4 c5 c6 c7 g0 g1 o8; have BU := Lib.hid (BT.out.set_ 3 (.int .i64 hv)); have OU := Lib.hid (OT.out.setCell (p := ⟨WQ.heap.size, 3, none⟩) (.inr (by show V.heap.size ≤ WQ.heap.size; omega)) (.int .i64 hv)); have OWU := Lib.hid (own_set OWT.out (p := ⟨WQ.heap.size, 3, none⟩) (fun q hq => by have := (OWN.out.lt q hq).2; show q ≠ WQ.heap.size; omega) (.int .i64 hv)); have x0 := BU.out.cell 0; have x1 := BU.out.cell 1; have x2 := BU.out.cell 2; have x3 := BU.out.cell 3; simp only [List.set_cons_zero, List.set_cons_succ, List.getElem?_cons_zero, List.getElem?_cons_succ] at x0 x1 x2 x3; have HNEWS := Lib.hid (World.news_of_block (heap_alloc_new (w8.setCell ⟨WQ.heap.size, 3, none⟩ (.int .i64 hv)) (.cells #[.int .i64 k, .int .i64 i, .int .i64 i, .int .i64 hv] 49))); rw [show (w8.setCell ⟨WQ.heap.size, 3, none⟩ (.int .i64 hv)).heap.size = w8.heap.size by simp [World.setCell]] at HNEWS)
                      | (at_builtin; refine wpList_append_lies _ rfl _ _ _ rfl V.heap.size 49 _ _ 4 32 Try.underlying44 hi0 hz0 hz1 hz2 rfl (by omega) v pre.length _ rfl (OWU.out.alloc _) ⟨w8.heap.size, 0, none⟩ 1 1 [.int .i64 k, .int .i64 i, .int .i64 i, .int .i64 hv] rfl rfl HNEWS.out (by simp [Value.oneCell']) (by omega) (by simp only [maxLen]; omega) (by omega) (by simp [World.setCell]; omega) (w8.heap.size + 1) (by simp [World.setCell]) ?_; intro gg cap w5 hown5 hgrow hat hlt5))
                    go_roundw
                    case rel =>
                      refine ⟨i + 1, pre ++ [⟨k, i, i, hv⟩], _, by omega, by have := HEK2.out; omega, by go_num, rfl, Lib.hid ?_, ?_, (OU.out.alloc _).grown hgrow fun q hq => .inr (HOB.out q hq)⟩
                      · rw [← HPR.out]
                        unfold segK
                        rw [HT.out, ← EE.out, HHK.out, List.append_assoc]
                        rfl
                      · rw [sCells_snoc, List.length_append]
                        exact hown5
                    case measure => have := HII.out; simp [intOf]; omega
                  · have HHK := Lib.hid (show hookE m gs off l F K i e = 0 by unfold hookE; rw [if_neg hie])
                    have z1 : ((i : Int) == (e : Int)) = false := by
                      have : ¬ ((i : Int) = (e : Int)) := by omega
                      simpa using this
                    have z1n : (i == e) = false := by simpa using hie
                    have HNEWS := Lib.hid (World.news_of_block (heap_alloc_new (WQ.alloc (.cells #[.int .i64 k, .int .i64 i, .int .i64 e, .int .i64 0] 49)) (.cells #[.int .i64 k, .int .i64 i, .int .i64 e, .int .i64 0] 49)))
                    rw [show (WQ.alloc (.cells #[.int .i64 k, .int .i64 i, .int .i64 e, .int .i64 0] 49)).heap.size = WQ.heap.size + 1 by simp] at HNEWS
                    try clear hbg
                    go_wp2_with (at_builtin; refine wpList_append_lies _ rfl _ _ _ rfl V.heap.size 49 _ _ 4 32 Try.underlying44 hi0 hz0 hz1 hz2 rfl (by omega) v pre.length _ rfl ((OWN.out.alloc _).alloc _) ⟨WQ.heap.size + 1, 0, none⟩ 1 1 [.int .i64 k, .int .i64 i, .int .i64 e, .int .i64 0] rfl rfl HNEWS.out (by simp [Value.oneCell']) (by omega) (by simp only [maxLen]; omega) (by omega) (by simp; omega) (WQ.heap.size + 1 + 1) (by simp) ?_; intro gg cap w5 hown5 hgrow hat hlt5)
                    go_roundw
                    case rel =>
                      refine ⟨e + 1, pre ++ [⟨k, i, e, 0⟩], _, by omega, by have := HEK2.out; omega, by go_num, rfl, Lib.hid ?_, ?_, ((OW2.out.alloc _).alloc _).grown hgrow fun q hq => .inr (HOB.out q hq)⟩
                      · rw [← HPR.out]
                        unfold segK
                        rw [HT.out, ← EE.out, HHK.out, List.append_assoc]
                        rfl
                      · rw [sCells_snoc, List.length_append]
                        exact hown5
                    case measure => have := HII.out; simp [intOf]; omega
              · have e1 : ¬ (e : Int) < (K : Int) := by omega
                have EE := Lib.hid (show e = E by rw [← HEE.out, runK_end _ _ _ (by omega) (by omega)])
                clear hbg hOO hO3 hO4
                go_wp2_with fail
                refine wp_near [] (by kernel_rfl) (by kernel_rfl) ?_
                repeat (go_big_quiet_step (fail))
                refine wpQuiet_nil ?_
                intro ni
                obtain ⟨WQ, pq⟩ := ni
                dsimp only
                have OX := Lib.hid (HO4.out.trans pq)
                clear pq q0 q1 qn
                have OW2 := Lib.hid (HO3.out.trans OX.out)
                have OWN := Lib.hid (own_only HOW3.out OX.out (by simp))
                have HOB := Lib.hid (fun q hq => (OWN.out.lt q hq).1)
                have hpl : pre.length ≤ 768 := by
                  have h1 := HLEN.out
                  have h2 := congrArg List.length HPR.out
                  rw [List.length_append] at h2
                  omega
                have hwz := OW2.out.size
                have HEK2 := Lib.hid (show e ≤ K by omega)
                by_cases hie : i = e
                · subst hie
                  have HCL := Lib.hid fun (X : World) (o : Only [] (WQ.alloc (.cells #[.int .i64 k, .int .i64 i, .int .i64 i, .int .i64 0] 49)) X) => HHOOK.out X ((O0.out.trans (OW2.out.alloc (.cells #[.int .i64 k, .int .i64 i, .int .i64 i, .int .i64 0] 49))).trans o) i hi1 HII.out
                  obtain ⟨hv, hhv⟩ : ∃ hv, hookE m gs off l F K i i = hv := ⟨_, rfl⟩
                  simp only [hhv, grpV] at HCL
                  have HHK := Lib.hid hhv
                  have z1 : ((i : Int) == (i : Int)) = true := by simp
                  have BS := Lib.hid (Blk.new WQ 49 [.int .i64 k, .int .i64 i, .int .i64 i, .int .i64 0])
                  have BGX := Lib.hid (BG.out.only (OW2.out.alloc (.cells #[.int .i64 k, .int .i64 i, .int .i64 i, .int .i64 0] 49)) (by simp))
                  have BMX := Lib.hid (BM.out.only (OW2.out.alloc (.cells #[.int .i64 k, .int .i64 i, .int .i64 i, .int .i64 0] 49)) (by simp))
                  clear hhv
                  try clear hbg
                  have hc := (met_cells BMX.out (Only.refl [] _)).2
                  obtain ⟨c0, c1, c2, c3, c4, c5, c6, c7⟩ := hc
                  have g0 := BGX.out.cell 0
                  have g1 := BGX.out.cell 1
                  simp only [List.getElem?_cons_zero, List.getElem?_cons_succ] at g0 g1
                  go_wp2_with (first
                    | (go_at_call 36; refine (HCL.out _ (Only.refl [] _)).mono ?_; rintro e w8 ⟨rfl, o8⟩; have BT := Lib.hid (BS.out.only o8 (by simp)); have OT := Lib.hid ((OW2.out.alloc (.cells #[.int .i64 k, .int .i64 i, .int .i64 i, .int .i64 0] 49)).trans o8); have OWT := Lib.hid (own_only (OWN.out.alloc (.cells #[.int .i64 k, .int .i64 i, .int .i64 i, .int .i64 0] 49)) o8 (by simp)); have hts := OT.out.size; have hts2 := o8.size; have y0 := BT.out.cell 0; have y1 := BT.out.cell 1; have y2 := BT.out.cell 2; have y3 := BT.out.cell 3; have y4 := BT.out.frozen 3; simp only [List.getElem?_cons_zero, List.getElem?_cons_succ] at y0 y1 y2 y3; clear c0 c1 c2 c3 c4 c5 c6 c7 g0 g1 o8; have BU := Lib.hid (BT.out.set_ 3 (.int .i64 hv)); have OU := Lib.hid (OT.out.setCell (p := ⟨WQ.heap.size, 3, none⟩) (.inr (by show V.heap.size ≤ WQ.heap.size; omega)) (.int .i64 hv)); have OWU := Lib.hid (own_set OWT.out (p := ⟨WQ.heap.size, 3, none⟩) (fun q hq => by have := (OWN.out.lt q hq).2; show q ≠ WQ.heap.size; omega) (.int .i64 hv)); have x0 := BU.out.cell 0; have x1 := BU.out.cell 1; have x2 := BU.out.cell 2; have x3 := BU.out.cell 3; simp only [List.set_cons_zero, List.set_cons_succ, List.getElem?_cons_zero, List.getElem?_cons_succ] at x0 x1 x2 x3; have HNEWS := Lib.hid (World.news_of_block (heap_alloc_new (w8.setCell ⟨WQ.heap.size, 3, none⟩ (.int .i64 hv)) (.cells #[.int .i64 k, .int .i64 i, .int .i64 i, .int .i64 hv] 49))); rw [show (w8.setCell ⟨WQ.heap.size, 3, none⟩ (.int .i64 hv)).heap.size = w8.heap.size by simp [World.setCell]] at HNEWS)
                    | (at_builtin; refine wpList_append_lies _ rfl _ _ _ rfl V.heap.size 49 _ _ 4 32 Try.underlying44 hi0 hz0 hz1 hz2 rfl (by omega) v pre.length _ rfl (OWU.out.alloc _) ⟨w8.heap.size, 0, none⟩ 1 1 [.int .i64 k, .int .i64 i, .int .i64 i, .int .i64 hv] rfl rfl HNEWS.out (by simp [Value.oneCell']) (by omega) (by simp only [maxLen]; omega) (by omega) (by simp [World.setCell]; omega) (w8.heap.size + 1) (by simp [World.setCell]) ?_; intro gg cap w5 hown5 hgrow hat hlt5))
                  go_roundw
                  case rel =>
                    refine ⟨i + 1, pre ++ [⟨k, i, i, hv⟩], _, by omega, by have := HEK2.out; omega, by go_num, rfl, Lib.hid ?_, ?_, (OU.out.alloc _).grown hgrow fun q hq => .inr (HOB.out q hq)⟩
                    · rw [← HPR.out]
                      unfold segK
                      rw [HT.out, ← EE.out, HHK.out, List.append_assoc]
                      rfl
                    · rw [sCells_snoc, List.length_append]
                      exact hown5
                  case measure => have := HII.out; simp [intOf]; omega
                · have HHK := Lib.hid (show hookE m gs off l F K i e = 0 by unfold hookE; rw [if_neg hie])
                  have z1 : ((i : Int) == (e : Int)) = false := by
                    have : ¬ ((i : Int) = (e : Int)) := by omega
                    simpa using this
                  have z1n : (i == e) = false := by simpa using hie
                  have HNEWS := Lib.hid (World.news_of_block (heap_alloc_new (WQ.alloc (.cells #[.int .i64 k, .int .i64 i, .int .i64 e, .int .i64 0] 49)) (.cells #[.int .i64 k, .int .i64 i, .int .i64 e, .int .i64 0] 49)))
                  rw [show (WQ.alloc (.cells #[.int .i64 k, .int .i64 i, .int .i64 e, .int .i64 0] 49)).heap.size = WQ.heap.size + 1 by simp] at HNEWS
                  try clear hbg
                  go_wp2_with (at_builtin; refine wpList_append_lies _ rfl _ _ _ rfl V.heap.size 49 _ _ 4 32 Try.underlying44 hi0 hz0 hz1 hz2 rfl (by omega) v pre.length _ rfl ((OWN.out.alloc _).alloc _) ⟨WQ.heap.size + 1, 0, none⟩ 1 1 [.int .i64 k, .int .i64 i, .int .i64 e, .int .i64 0] rfl rfl HNEWS.out (by simp [Value.oneCell']) (by omega) (by simp only [maxLen]; omega) (by omega) (by simp; omega) (WQ.heap.size + 1 + 1) (by simp) ?_; intro gg cap w5 hown5 hgrow hat hlt5)
                  go_roundw
                  case rel =>
                    refine ⟨e + 1, pre ++ [⟨k, i, e, 0⟩], _, by omega, by have := HEK2.out; omega, by go_num, rfl, Lib.hid ?_, ?_, ((OW2.out.alloc _).alloc _).grown hgrow fun q hq => .inr (HOB.out q hq)⟩
                    · rw [← HPR.out]
                      unfold segK
                      rw [HT.out, ← EE.out, HHK.out, List.append_assoc]
                      rfl
                    · rw [sCells_snoc, List.length_append]
                      exact hown5
                  case measure => have := HII.out; simp [intOf]; omega
        · obtain rfl : i = K + 1 := by omega
          have HP2 := Lib.hid (show pre = RK by rw [← HPR.out, segK_end, List.append_nil])
          have HO3 := Lib.hid hO
          have HOW3 := Lib.hid hown
          have e9 : ¬ ((K + 1 : Nat) : Int) ≤ (K : Int) := by omega
          clear hbg hOO hown hO
          go_wp2_with fail
          go_roundw
          case rel => exact ⟨kk + 1, v, by have := HKM.out; omega, by rw [← HK0.out]; go_num, rfl, by rw [HKR.out, ← HP2.out]; exact HOW3.out, HO3.out⟩
          case measure => have := HK0.out; have := HKM.out; simp [intOf]; omega
    · obtain rfl : kk = 6 := by omega
      have HO9 := Lib.hid (O0.out.trans hO)
      have HOW9 := Lib.hid (own_lower hown O0.out.size)
      clear hO hown
      go_wp2_with fail
      go_ret
      exact ⟨v, rfl, HOW9.out, HO9.out⟩
end Go.Proofs.Ytglkpoiajebleaa
