/- DERIVED. BeamReads: the walk. -/
import Derived.Test.YtglkpoiajebleaaRdp
import Derived.Test.YtglkpoiajebleaaPrt
import Derived.Test.YtglkpoiajebleaaKnw
import Derived.Deep.RegionHeld3
namespace Go.Proofs.Ytglkpoiajebleaa
open Go.RowKit

set_option maxRecDepth 20000 in
set_option maxHeartbeats 32000000 in
theorem reads_any {w : World} {A B : Option Addr} {ns : List Vn} {hs : List Vh} (c d : Nat) (hA : VnsAt w A ns) (hB : VhsAt w B hs) (o : Int) (ho : 0 ≤ o ∧ o ≤ 255) (mm : Int) (hm : 0 ≤ mm ∧ mm ≤ 255) (wh : Int) (hw : 0 ≤ wh ∧ wh ≤ 255) :
    Calls Try.prog 8 #[voiV o A ns.length c B hs.length d, .int .u8 mm, .int .u8 wh] w fun e w' => e = .returned (.bool true) ∧ Only [] w w' := by
  have HM := Lib.hid fun w2 (oo : Only [] w w2) => make_any c d (hA.only oo) (hB.only oo) o ho
  have HNT := Lib.hid (voice_nt hA.ok hB.ok)
  have HVO := Lib.hid (voice_ok hA.ok hB.ok)
  have HVL := Lib.hid (show (voiceL ns hs).length ≤ 16 by rw [voiceL_len]; unfold vLen; omega)
  have HAL := Lib.hid fun m hc => voice_all hA.ok hB.ok m hc o ho
  have O0 := Lib.hid ((Only.refl [] w).alloc (.cells #[.int .u8 o, .slice A ns.length c, .slice B hs.length d] 25))
  have BV := Lib.hid (Blk.new w 25 [.int .u8 o, .slice A ns.length c, .slice B hs.length d])
  obtain ⟨l, hl⟩ : ∃ l, voiceL ns hs = l := ⟨_, rfl⟩
  rw [hl] at HM HAL HVO HVL HNT
  have HSG := Lib.hid (signature_any mm hm)
  have hck := sigM_chk (mm % 6).toNat
  obtain ⟨m, hmm⟩ : ∃ m, sigM (mm % 6).toNat = m := ⟨_, rfl⟩
  rw [hmm] at HSG hck
  obtain ⟨hG, hgl, hg⟩ := grpC_of hck
  have hg0 := beatsL_pos hck
  obtain ⟨gs, hgs⟩ : ∃ gs, m.beatsL = gs := ⟨_, rfl⟩
  rw [hgs] at hG hgl hg hg0
  obtain ⟨off, hoff⟩ : ∃ off, o % 32 * 120960 = off := ⟨_, rfl⟩
  rw [hoff] at HM HAL
  have HSS := Lib.hid fun (w2 : World) (A' : Option Addr) (c' : Nat) (h : NotesAt w2 A' l) (hcap : l.length ≤ c') (F K : Nat) (hFK : F < K) (hKl : K < l.length) (hge : gE l F K = 0) => Segments_any m gs hG hgl hg0 hg off c' h (by have := HVL.out; omega) hcap (HAL.out m hck) F K hFK hKl hge
  have HFL : Hid (∀ i, 0 ≤ (ntAt l i).fl ∧ (ntAt l i).fl ≤ 6) := Lib.hid fun i => by
    by_cases hi : i < l.length
    · rw [show ntAt l i = l[i] by simp [ntAt, hi]]
      exact (HVO.out _ (List.getElem_mem _)).1.c2
    · rw [show ntAt l i = ⟨0, 0, 0, 0, 0, 0⟩ by simp [ntAt, hi]]
      exact ⟨Int.le_refl _, by decide⟩
  clear hA hB hl hmm hgs hoff hG hgl hg hg0 hck
  go_enter Try.func8, Try.ntmps8
  go_wp2_with (first
    | (go_at_call 9; refine (known_any _).mono ?_; rintro e w1 ⟨rfl, o1⟩; have O1 := Lib.hid (O0.out.trans o1); have bv := BV.out.only o1 (by simp); have q0 := bv.cell 0; have q1 := bv.cell 1; have q2 := bv.cell 2; simp only [List.getElem?_cons_zero, List.getElem?_cons_succ] at q0 q1 q2; clear bv)
    | (go_at_call 10; refine (HM.out _ O1.out).mono ?_; rintro e w2 ⟨v, rfl, hown, o2⟩; obtain ⟨A', c', rfl, -, hcap, hnt⟩ := own_notes hown; have O2 := Lib.hid (O1.out.trans o2); have NT := Lib.hid hnt; have HPRT := Lib.hid (part_any c' hnt (by have := HVL.out; omega) (fun x hx => ((HVO.out x hx).1).c2) wh hw); clear hnt hown q0 q1 q2)
    | (go_at_call 15; refine HPRT.out.mono ?_; rintro e w3 ⟨hp, o3⟩; have O3 := Lib.hid (O2.out.trans o3); have NT3 := Lib.hid (NT.out.only o3); rcases hp with ⟨F, K, hFK, hKl, hfl, rfl⟩ | rfl))
  · have hg := gE_of hFK hKl hfl
    have hl16 := HVL.out
    have HVLL := Lib.hid hl16
    have OG := Lib.hid ((Only.refl [] w3).alloc (.cells #[.int .i64 (F : Int), .int .i64 (K : Int)] 40))
    have BG := Lib.hid (Blk.new w3 40 [.int .i64 (F : Int), .int .i64 (K : Int)])
    have HCNT := Lib.hid (reads_cnt m gs off l F K (by omega) HFL.out)
    have HSOK := Lib.hid (segsTo_ok m gs off l F K (mostTo l F (K - F + 1)).toNat)
    have hmr := mostTo_rng (F := F) HFL.out (K - F + 1)
    have hslen := segsTo_len m gs off l F K (mostTo l F (K - F + 1)).toNat
    have HSL : Hid ((segsTo m gs off l F K (mostTo l F (K - F + 1)).toNat).length ≤ 768) := Lib.hid (Nat.le_trans hslen (Nat.le_trans (Nat.mul_le_mul (show (mostTo l F (K - F + 1)).toNat ≤ 6 by omega) (show K + 1 ≤ 128 by omega)) (by omega)))
    have HSEG := Lib.hid fun w4 (oo : Only [] w3 w4) => HSS.out w4 A' c' (NT3.out.only oo) hcap F K hFK hKl hg
    have hm6 : (mostTo l F (K - F + 1)).toNat ≤ 6 := by omega
    obtain ⟨mk, hmk⟩ : ∃ mk, (mostTo l F (K - F + 1)).toNat = mk := ⟨_, rfl⟩
    rw [hmk] at HCNT HSOK HSL hm6
    simp only [hmk] at HSEG
    obtain ⟨S, hS⟩ : ∃ S, segsTo m gs off l F K mk = S := ⟨_, rfl⟩
    rw [hS] at HCNT HSOK HSL
    simp only [hS] at HSEG
    have HFG := Lib.hid fun (w5 : World) (D : Option Addr) (cD : Nat) (h : SegsAt w5 D S) => Flags_ok cD h HSL.out (F : Int) (K : Int) (by omega) (by omega) (by omega) (fun r hr => by
      have := HSOK.out S[r] (List.getElem_mem _)
      exact ⟨this.2.2.1, this.2.2.2.1, this.2.2.2.2, by omega, by omega⟩)
    obtain ⟨n, hn⟩ : ∃ n, K - F + 1 = n := ⟨_, rfl⟩
    have hn2 : (K : Int) - (F : Int) + 1 = (n : Int) := by omega
    have wk1 : IntKind.i64.wrap ((K : Int) - (F : Int)) = (K : Int) - (F : Int) := IntWalk.i64_in _ (by omega)
    have wk3 : IntKind.i64.wrap (n : Int) = (n : Int) := IntWalk.i64_in _ (by omega)
    have hb1 : ((n : Int) != (n : Int)) = false := by simp
    have HNN := Lib.hid hn
    have HKL := Lib.hid hKl
    have HFK := Lib.hid hFK
    clear hg hmr hslen hmk hS hm6 hn hfl hFK hKl
    obtain ⟨W, hW⟩ : ∃ W, w3.alloc (.cells #[.int .i64 (F : Int), .int .i64 (K : Int)] 40) = W := ⟨_, rfl⟩
    go_wp2_with fail
    rw [hW] at OG BG ⊢
    clear hW
    have q0 := BG.out.cell 0
    have q1 := BG.out.cell 1
    simp only [List.getElem?_cons_zero, List.getElem?_cons_succ] at q0 q1
    have KEEP := Lib.hid (fun (X : World) (h : Only [] W X) => show X.cell? ⟨w3.heap.size, 0, none⟩ = some (.int .i64 (F : Int)) ∧ X.cell? ⟨w3.heap.size, 1, none⟩ = some (.int .i64 (K : Int)) from ⟨(BG.out.only h (by simp)).cell 0, (BG.out.only h (by simp)).cell 1⟩)
    have R0 := Lib.hid (Only.refl [] W)
    go_region_held3 (fun X => X.cell? ⟨w3.heap.size, 0, none⟩ = some (.int .i64 (F : Int)) ∧ X.cell? ⟨w3.heap.size, 1, none⟩ = some (.int .i64 (K : Int))) (first | exact ⟨q0, q1⟩ | exact KEEP.out _ R0.out.drew | exact KEEP.out _ O4.out | exact KEEP.out _ O5.out) (first
      | (have _h := O4; go_at_call 18; refine (HSEG.out _ (OG.out.trans O4.out)).mono ?_; rintro e w5 ⟨v5, rfl, hown, o5⟩; obtain ⟨D, cD, rfl, -, -, hD⟩ := own_segs hown; have O5 := Lib.hid (O4.out.trans o5); have HFG2 := Lib.hid (HFG.out _ D cD hD); clear hown hD o5)
      | (go_at_call 12; refine (HSG.out _).mono ?_; rintro e w4 ⟨rfl, o4⟩; have O4 := Lib.hid (R0.out.drew.trans o4); clear o4))
    have q0 := (KEEP.out _ O5.out).1
    have q1 := (KEEP.out _ O5.out).2
    simp only [grpV] at HFG2
    go_wp2_with fail
    go_at_call 14
    refine HFG2.out.mono ?_
    rintro e w6 ⟨g, n', hn', rfl, hge, hblk, o6⟩
    have hnn : n = n' := by omega
    subst hnn
    have O6 := Lib.hid (O5.out.trans o6)
    have HB6 := Lib.hid hblk
    have HGE := Lib.hid hge
    have q0 := (KEEP.out _ O6.out).1
    have q1 := (KEEP.out _ O6.out).2
    clear hn' hblk o6 hge
    go_wp2_with fail
    have NT6 := Lib.hid (NT3.out.only (OG.out.trans O6.out))
    have BG6 := Lib.hid (BG.out.only O6.out (by simp))
    clear q0 q1 HFG HFG2 HSEG HSS HPRT HSG HAL HM HVO HVL HNT NT NT3 BG BV KEEP HSOK HSL
    go_loopw [15] (fun i w2 => ∃ j : Nat, j ≤ n ∧ i = .int .i64 j ∧ Only [] w6 w2) (fun i _ => n - (intOf i).toNat)
    case atStart => exact ⟨0, by omega, rfl, Only.refl _ _⟩
    case round =>
      obtain ⟨j, hj, rfl, hO⟩ := hrel
      obtain ⟨V, rfl⟩ : ∃ V, V = wr := ⟨_, rfl⟩
      have HO := Lib.hid hO
      have HJ := Lib.hid hj
      by_cases hjn : j < n
      · have hx : F + j < l.length := by have := HNN.out; have := HKL.out; have := HFK.out; omega
        obtain ⟨b', off', rfl, hb', hcs⟩ := (NT6.out.only hO) (F + j) hx
        have hc := HCNT.out j (by have := HNN.out; omega)
        have ex : ntAt l (F + j) = l[F + j] := by simp [ntAt, hx]
        have m2 := hcs 2 (by omega)
        rw [← ex] at m2
        simp only [Nt.vs, List.getElem?_cons_zero, List.getElem?_cons_succ] at m2
        rw [← hc] at m2
        have r0 := ((HB6.out.only hO (by simp)).cell j).trans (rowS_get _ _ _ _ hjn)
        have q0 := (BG6.out.only hO (by simp)).cell 0
        simp only [List.getElem?_cons_zero] at q0
        obtain ⟨y, hy⟩ : ∃ y, cntS S (↑F + ↑j) = y := ⟨_, rfl⟩
        rw [hy] at m2 r0
        obtain ⟨x, hxe⟩ : ∃ x, F + j = x := ⟨_, rfl⟩
        have e1 : (F : Int) + (j : Int) = (x : Int) := by omega
        have wk3 : IntKind.i64.wrap (x : Int) = (x : Int) := IntWalk.i64_in _ (by have := HKL.out; have := HNN.out; have := HVLL.out; omega)
        rw [hxe] at m2 hx
        have x1 : (x : Int) < (l.length : Int) := by omega
        have x0 : (0 : Int) ≤ (x : Int) := by omega
        have j1 : (j : Int) < (n : Int) := by omega
        have j0 : (0 : Int) ≤ (j : Int) := by omega
        have yb : (y != y) = false := by simp
        clear hcs ex hb' hO hc hy hxe hj
        go_wp2_with fail
        go_quiet (fail)
        go_wp2
        go_roundw
        case rel => exact ⟨j + 1, by omega, by go_num, HO.out.drewN _⟩
        case measure => simp [intOf]; omega
      · obtain rfl : j = n := by omega
        have O9 := Lib.hid ((((O3.out.trans OG.out).trans O6.out)).trans hO)
        clear hO
        go_wp2_with fail
        go_ret
        exact ⟨rfl, O9.out⟩
  · go_ret
    exact ⟨rfl, O3.out.alloc _⟩
end Go.Proofs.Ytglkpoiajebleaa
