/- DERIVED. BeamSegments: the plain law, the walk. -/
import Derived.Test.YtglkpoiajebleaaMsg
import Derived.Test.YtglkpoiajebleaaPrt
import Derived.Test.YtglkpoiajebleaaKnw
import Derived.Deep.RegionHeld3
namespace Go.Proofs.Ytglkpoiajebleaa
open Go.RowKit

theorem segF_none (C : Nat → Bool) (H : Nat → Nat → Int) (fl : Nat → Int) (k : Int) (n : Nat) : ∀ f i, (∀ j, i ≤ j → j < n → fl j < k) → segF C H fl k n f i = []
  | 0, _, _ => rfl
  | f + 1, i, h => by
    unfold segF
    split
    · rename_i hi
      rw [if_pos (h i (Nat.le_refl _) hi)]
      exact segF_none C H fl k n f (i + 1) fun j h1 h2 => h j (by omega) h2
    · rfl
theorem segsTo_top (m : Met) (gs : List Int) (off : Int) (l : List Nt) (F K mk : Nat) (h : ∀ j, F ≤ j → j ≤ K → (ntAt l j).fl ≤ mk) : ∀ d, segsTo m gs off l F K (mk + d) = segsTo m gs off l F K mk
  | 0 => rfl
  | d + 1 => by
    rw [← Nat.add_assoc, segsTo, segsTo_top m gs off l F K mk h d]
    unfold segK
    rw [segF_none _ _ _ _ _ _ _ fun j h1 h2 => by have := h j h1 (by omega); omega, List.append_nil]
theorem segsTo_six (m : Met) (gs : List Int) (off : Int) (l : List Nt) (F K : Nat) (hFK : F ≤ K) (hfl : ∀ i, 0 ≤ (ntAt l i).fl ∧ (ntAt l i).fl ≤ 6) : segsTo m gs off l F K 6 = segsTo m gs off l F K (mostTo l F (K - F + 1)).toNat := by
  have h3 := mostTo_rng (F := F) hfl (K - F + 1)
  have e : 6 = (mostTo l F (K - F + 1)).toNat + (6 - (mostTo l F (K - F + 1)).toNat) := by omega
  rw [show segsTo m gs off l F K 6 = segsTo m gs off l F K ((mostTo l F (K - F + 1)).toNat + (6 - (mostTo l F (K - F + 1)).toNat)) by rw [← e]]
  refine segsTo_top m gs off l F K _ (fun j h1 h2 => ?_) _
  have := mostTo_ge l F (K - F + 1) (j - F) (by omega)
  rw [show F + (j - F) = j by omega] at this
  omega

set_option maxRecDepth 20000 in
set_option maxHeartbeats 32000000 in
theorem segments_law {w : World} {A B : Option Addr} {ns : List Vn} {hs : List Vh} (c d : Nat) (hA : VnsAt w A ns) (hB : VhsAt w B hs) (o : Int) (ho : 0 ≤ o ∧ o ≤ 255) (mm : Int) (hm : 0 ≤ mm ∧ mm ≤ 255) (wh : Int) (hw : 0 ≤ wh ∧ wh ≤ 255) :
    Calls Try.prog 6 #[voiV o A ns.length c B hs.length d, .int .u8 mm, .int .u8 wh] w fun e w' => e = .returned (.bool true) ∧ Only [] w w' := by
  have HM := Lib.hid fun w2 (oo : Only [] w w2) => make_any c d (hA.only oo) (hB.only oo) o ho
  have HNT := Lib.hid (voice_nt hA.ok hB.ok)
  have HVO := Lib.hid (voice_ok hA.ok hB.ok)
  have HVL := Lib.hid (show (voiceL ns hs).length ≤ 16 by rw [voiceL_len]; unfold vLen; omega)
  have HAL := Lib.hid fun m hc => voice_all hA.ok hB.ok m hc o ho
  have O0 := Lib.hid ((Only.refl [] w).alloc (.cells #[.int .u8 o, .slice A ns.length c, .slice B hs.length d] 25))
  have BV := Lib.hid (Blk.new w 25 [.int .u8 o, .slice A ns.length c, .slice B hs.length d])
  obtain ⟨l, hl⟩ : ∃ l, voiceL ns hs = l := ⟨_, rfl⟩
  rw [hl] at HM HAL HVO HVL HNT
  have HSG := Lib.hid (signature_any mm hm)
  have hck := sigM_chk (mm % 6).toNat
  obtain ⟨m, hmm⟩ : ∃ m, sigM (mm % 6).toNat = m := ⟨_, rfl⟩
  rw [hmm] at HSG hck
  obtain ⟨hG, hgl, hg⟩ := grpC_of hck
  have hg0 := beatsL_pos hck
  obtain ⟨gs, hgs⟩ : ∃ gs, m.beatsL = gs := ⟨_, rfl⟩
  rw [hgs] at hG hgl hg hg0
  obtain ⟨off, hoff⟩ : ∃ off, o % 32 * 120960 = off := ⟨_, rfl⟩
  rw [hoff] at HM HAL
  have HSS := Lib.hid fun (w2 : World) (A' : Option Addr) (c' : Nat) (h : NotesAt w2 A' l) (hcap : l.length ≤ c') (F K : Nat) (hFK : F < K) (hKl : K < l.length) (hge : gE l F K = 0) => Segments_any m gs hG hgl hg0 hg off c' h (by have := HVL.out; omega) hcap (HAL.out m hck) F K hFK hKl hge
  have HMS := Lib.hid fun (w2 : World) (A' : Option Addr) (c' : Nat) (h : NotesAt w2 A' l) (F K : Nat) (hFK : F < K) (hKl : K < l.length) => msegments_any m gs hG hgl hg0 hg off c' h (by have := HVL.out; omega) (HAL.out m hck) F K hFK hKl
  have HFL : Hid (∀ i, 0 ≤ (ntAt l i).fl ∧ (ntAt l i).fl ≤ 6) := Lib.hid fun i => by
    by_cases hi : i < l.length
    · rw [show ntAt l i = l[i] by simp [ntAt, hi]]
      exact (HVO.out _ (List.getElem_mem _)).1.c2
    · rw [show ntAt l i = ⟨0, 0, 0, 0, 0, 0⟩ by simp [ntAt, hi]]
      exact ⟨Int.le_refl _, by decide⟩
  clear hA hB hl hmm hgs hoff hG hgl hg hg0 hck
  go_enter Try.func6, Try.ntmps6
  go_wp2_with (first
    | (go_at_call 9; refine (known_any _).mono ?_; rintro e w1 ⟨rfl, o1⟩; have O1 := Lib.hid (O0.out.trans o1); have bv := BV.out.only o1 (by simp); have q0 := bv.cell 0; have q1 := bv.cell 1; have q2 := bv.cell 2; simp only [List.getElem?_cons_zero, List.getElem?_cons_succ] at q0 q1 q2; clear bv)
    | (go_at_call 10; refine (HM.out _ O1.out).mono ?_; rintro e w2 ⟨v, rfl, hown, o2⟩; obtain ⟨A', c', rfl, -, hcap, hnt⟩ := own_notes hown; have O2 := Lib.hid (O1.out.trans o2); have NT := Lib.hid hnt; have HPRT := Lib.hid (part_any c' hnt (by have := HVL.out; omega) (fun x hx => ((HVO.out x hx).1).c2) wh hw); clear hnt hown q0 q1 q2)
    | (go_at_call 15; refine HPRT.out.mono ?_; rintro e w3 ⟨hp, o3⟩; have O3 := Lib.hid (O2.out.trans o3); have NT3 := Lib.hid (NT.out.only o3); rcases hp with ⟨F, K, hFK, hKl, hfl, rfl⟩ | rfl))
  · have hg := gE_of hFK hKl hfl
    have hl16 := HVL.out
    have HVLL := Lib.hid hl16
    have OG := Lib.hid ((Only.refl [] w3).alloc (.cells #[.int .i64 (F : Int), .int .i64 (K : Int)] 40))
    have BG := Lib.hid (Blk.new w3 40 [.int .i64 (F : Int), .int .i64 (K : Int)])
    have hmr := mostTo_rng (F := F) HFL.out (K - F + 1)
    have hslen := segsTo_len m gs off l F K (mostTo l F (K - F + 1)).toNat
    have HSL : Hid ((segsTo m gs off l F K (mostTo l F (K - F + 1)).toNat).length ≤ 768) := Lib.hid (Nat.le_trans hslen (Nat.le_trans (Nat.mul_le_mul (show (mostTo l F (K - F + 1)).toNat ≤ 6 by omega) (show K + 1 ≤ 128 by omega)) (by omega)))
    have HSEG := Lib.hid fun w4 (oo : Only [] w3 w4) => HSS.out w4 A' c' (NT3.out.only oo) hcap F K hFK hKl hg
    have HMSG := Lib.hid fun w4 (oo : Only [] w3 w4) => HMS.out w4 A' c' (NT3.out.only oo) F K hFK hKl
    simp only [segsTo_six m gs off l F K (by omega) HFL.out] at HMSG
    obtain ⟨mk, hmk⟩ : ∃ mk, (mostTo l F (K - F + 1)).toNat = mk := ⟨_, rfl⟩
    rw [hmk] at HSL
    simp only [hmk] at HSEG HMSG
    obtain ⟨S, hS⟩ : ∃ S, segsTo m gs off l F K mk = S := ⟨_, rfl⟩
    rw [hS] at HSL
    simp only [hS, grpV] at HSEG HMSG
    clear hg hmr hslen hmk hS hfl hFK hKl HSS HMS HAL HM HVO HNT HPRT
    obtain ⟨W, hW⟩ : ∃ W, w3.alloc (.cells #[.int .i64 (F : Int), .int .i64 (K : Int)] 40) = W := ⟨_, rfl⟩
    go_wp2_with fail
    rw [hW] at OG BG ⊢
    clear hW
    have q0 := BG.out.cell 0
    have q1 := BG.out.cell 1
    simp only [List.getElem?_cons_zero, List.getElem?_cons_succ] at q0 q1
    have KEEP := Lib.hid (fun (X : World) (h : Only [] W X) => show X.cell? ⟨w3.heap.size, 0, none⟩ = some (.int .i64 (F : Int)) ∧ X.cell? ⟨w3.heap.size, 1, none⟩ = some (.int .i64 (K : Int)) from ⟨(BG.out.only h (by simp)).cell 0, (BG.out.only h (by simp)).cell 1⟩)
    have R0 := Lib.hid (Only.refl [] W)
    go_region_held3 (fun X => X.cell? ⟨w3.heap.size, 0, none⟩ = some (.int .i64 (F : Int)) ∧ X.cell? ⟨w3.heap.size, 1, none⟩ = some (.int .i64 (K : Int))) (first | exact ⟨q0, q1⟩ | exact KEEP.out _ R0.out.drew | exact KEEP.out _ O4.out | exact KEEP.out _ O5.out) (first
      | (have _h := O4; go_at_call 18; refine (HSEG.out _ (OG.out.trans O4.out)).mono ?_; rintro e w5 ⟨v5, rfl, hown, o5⟩; obtain ⟨D, cD, rfl, -, -, hD⟩ := own_segs hown; have O5 := Lib.hid (O4.out.trans o5); have HD := Lib.hid hD; clear hown hD o5)
      | (go_at_call 12; refine (HSG.out _).mono ?_; rintro e w4 ⟨rfl, o4⟩; have O4 := Lib.hid (R0.out.drew.trans o4); clear o4))
    have q0 := (KEEP.out _ O5.out).1
    have q1 := (KEEP.out _ O5.out).2
    go_wp2_with fail
    go_region_held3 (fun X => X.cell? ⟨w3.heap.size, 0, none⟩ = some (.int .i64 (F : Int)) ∧ X.cell? ⟨w3.heap.size, 1, none⟩ = some (.int .i64 (K : Int))) (first | exact ⟨q0, q1⟩ | exact KEEP.out _ O5.out.drew | exact KEEP.out _ O6.out | exact KEEP.out _ O7.out) (first
      | (have _h := O6; go_at_call 19; refine (HMSG.out _ (OG.out.trans O6.out)).mono ?_; rintro e w7 ⟨v7, rfl, hown, o7⟩; obtain ⟨E, cE, rfl, -, -, hE⟩ := own_segs hown; have O7 := Lib.hid (O6.out.trans o7); have D7 := Lib.hid (D6.out.trans o7); have HE := Lib.hid hE; clear hown hE o7)
      | (go_at_call 12; refine (HSG.out _).mono ?_; rintro e w6 ⟨rfl, o6⟩; have O6 := Lib.hid (O5.out.drew.trans o6); have D6 := Lib.hid ((Only.refl [] w5).drew.trans o6); clear o6))
    go_wp2_with fail
    have hSL := HSL.out
    clear q0 q1 HSEG HMSG HSG KEEP R0 BG
    go_loopw [14] (fun i w2 => ∃ j : Nat, j ≤ S.length ∧ i = .int .i64 j ∧ Only [] w7 w2) (fun i _ => S.length - (intOf i).toNat)
    case atStart => exact ⟨0, by omega, rfl, Only.refl _ _⟩
    case round =>
      obtain ⟨j, hj, rfl, hO⟩ := hrel
      have HO := Lib.hid hO
      by_cases hlt : j < S.length
      · obtain ⟨D0, dd, rfl, hDs, hs⟩ := HD.out j hlt
        obtain ⟨E0, ee, rfl, hEs, ht⟩ := HE.out j hlt
        have x0 := ((D7.out.trans hO).cell (p := ⟨D0, dd + j * 4 + 0, none⟩) hDs (by simp)).trans (hs 0 (by omega))
        have x1 := ((D7.out.trans hO).cell (p := ⟨D0, dd + j * 4 + 1, none⟩) hDs (by simp)).trans (hs 1 (by omega))
        have x2 := ((D7.out.trans hO).cell (p := ⟨D0, dd + j * 4 + 2, none⟩) hDs (by simp)).trans (hs 2 (by omega))
        have x3 := ((D7.out.trans hO).cell (p := ⟨D0, dd + j * 4 + 3, none⟩) hDs (by simp)).trans (hs 3 (by omega))
        have y0 := (hO.cell (p := ⟨E0, ee + j * 4 + 0, none⟩) hEs (by simp)).trans (ht 0 (by omega))
        have y1 := (hO.cell (p := ⟨E0, ee + j * 4 + 1, none⟩) hEs (by simp)).trans (ht 1 (by omega))
        have y2 := (hO.cell (p := ⟨E0, ee + j * 4 + 2, none⟩) hEs (by simp)).trans (ht 2 (by omega))
        have y3 := (hO.cell (p := ⟨E0, ee + j * 4 + 3, none⟩) hEs (by simp)).trans (ht 3 (by omega))
        obtain ⟨p, hpp⟩ : ∃ p, S[j] = p := ⟨_, rfl⟩
        rw [hpp] at x0 x1 x2 x3 y0 y1 y2 y3
        simp only [Sg.vs, List.getElem?_cons_zero, List.getElem?_cons_succ, Nat.add_zero] at x0 x1 x2 x3 y0 y1 y2 y3
        have HLT := Lib.hid hlt
        have j0 : (0 : Int) ≤ (j : Int) := by omega
        have j1 : (j : Int) < (S.length : Int) := by omega
        clear hs ht hpp hO hlt hDs hEs
        go_wp2_with fail
        go_quiet (fail)
        go_wp2
        go_roundw
        case rel => exact ⟨j + 1, by have := HLT.out; omega, by go_num, HO.out.drewN _⟩
        case measure => have := HLT.out; simp [intOf]; omega
      · have O9 := Lib.hid ((((O3.out.trans OG.out).trans O7.out)).trans hO)
        clear hO
        go_wp2_with fail
        go_ret
        exact ⟨rfl, O9.out⟩
  · go_ret
    exact ⟨rfl, O3.out.alloc _⟩
end Go.Proofs.Ytglkpoiajebleaa
