/- DERIVED. BeamGroups: the walk. -/
import Derived.Test.YtglkpoiajebleaaBgp
import Derived.Test.YtglkpoiajebleaaKnw
namespace Go.Proofs.Ytglkpoiajebleaa
open Go.RowKit

theorem grpF_len (J : Nat → Bool) (n : Nat) : ∀ f i, (grpF J n f i).length ≤ n - i
  | 0, i => by simp [grpF]
  | f + 1, i => by
    unfold grpF
    split
    · have h1 := (runK_le J n n i).1
      have h2 := grpF_len J n f (runK J n n i + 1)
      rw [List.length_append]
      split <;> simp <;> omega
    · simp
def GProp (l : List Nt) (G : List (Nat × Nat)) : Prop := ∀ q (h : q < G.length),
  G[q].1 < G[q].2 ∧ G[q].2 < l.length ∧ (∀ k, G[q].1 ≤ k → k ≤ G[q].2 → (ntAt l k).fl ≠ 0 ∧ (G[q].1 < k → (ntAt l k).st ≠ 1)) ∧ (∀ p (hp : p < G.length), p + 1 = q → G[p].2 < G[q].1)

set_option maxRecDepth 20000 in
set_option maxHeartbeats 16000000 in
theorem bgroups_any {w : World} {A B : Option Addr} {ns : List Vn} {hs : List Vh} (c d : Nat) (hA : VnsAt w A ns) (hB : VhsAt w B hs) (o : Int) (ho : 0 ≤ o ∧ o ≤ 255) (mm : Int) (hm : 0 ≤ mm ∧ mm ≤ 255) :
    Calls Try.prog 3 #[voiV o A ns.length c B hs.length d, .int .u8 mm] w fun e w' => e = .returned (.bool true) ∧ Only [] w w' := by
  have HM := Lib.hid fun w2 (oo : Only [] w w2) => make_any c d (hA.only oo) (hB.only oo) o ho
  have HVO := Lib.hid (voice_ok hA.ok hB.ok)
  have HVL := Lib.hid (show (voiceL ns hs).length ≤ 16 by rw [voiceL_len]; unfold vLen; omega)
  have HAL := Lib.hid fun m hc => voice_all hA.ok hB.ok m hc o ho
  have O0 := Lib.hid ((Only.refl [] w).alloc (.cells #[.int .u8 o, .slice A ns.length c, .slice B hs.length d] 25))
  have BV := Lib.hid (Blk.new w 25 [.int .u8 o, .slice A ns.length c, .slice B hs.length d])
  obtain ⟨l, hl⟩ : ∃ l, voiceL ns hs = l := ⟨_, rfl⟩
  rw [hl] at HM HAL HVO HVL
  have HSG := Lib.hid (signature_any mm hm)
  have hck := sigM_chk (mm % 6).toNat
  have hbt := sig_beats (mm % 6).toNat
  obtain ⟨m, hmm⟩ : ∃ m, sigM (mm % 6).toNat = m := ⟨_, rfl⟩
  rw [hmm] at HSG hck hbt
  obtain ⟨hG, hgl, hg⟩ := grpC_of hck
  obtain ⟨gs, hgs⟩ : ∃ gs, m.beatsL = gs := ⟨_, rfl⟩
  rw [hgs] at hG hgl hg hbt
  obtain ⟨off, hoff⟩ : ∃ off, o % 32 * 120960 = off := ⟨_, rfl⟩
  rw [hoff] at HM HAL
  have hk := Met.ok_of hck
  have hu := un_rng hk.u1 hk.u2
  have hlen : 0 < m.len := by have := len_rng hk.c1 hk.c2 hu.1 hu.2; unfold Met.len Met.un; omega
  have HGB := Lib.hid fun (w2 : World) (A' : Option Addr) (c' : Nat) (h : NotesAt w2 A' l) => Groups_any m gs hG hgl hg off c' h (by have := HVL.out; omega) (HAL.out m hck)
  have HGM := Lib.hid fun (w2 : World) (A' : Option Addr) (c' : Nat) (h : NotesAt w2 A' l) => mgroups_any m gs hG hgl hg off c' h (by have := HVL.out; omega) (HAL.out m hck)
  have hgl2 : (groupsM m gs off l).length ≤ 16 := by
    have := grpF_len (fun i => joinM m gs off (ntAt l i) (ntAt l (i + 1))) l.length l.length 0
    have := HVL.out
    unfold groupsM; omega
  have HPR := Lib.hid (show GProp l (groupsM m gs off l) from groups_prop m gs off l)
  rw [groups_eq hbt hlen off l (fun x hx => (HVO.out x hx).1)] at HGB
  obtain ⟨G, hGG⟩ : ∃ G, groupsM m gs off l = G := ⟨_, rfl⟩
  simp only [hGG] at HGB HGM HPR
  rw [hGG] at hgl2
  clear hA hB hl hmm hgs hoff hk hu hlen hbt hG hgl hg hck hGG
  go_enter Try.func3, Try.ntmps3
  go_wp2_with (first
    | (go_at_call 9; refine (known_any _).mono ?_; rintro e w1 ⟨rfl, o1⟩; have O1 := Lib.hid (O0.out.trans o1); have bv := BV.out.only o1 (by simp); have q0 := bv.cell 0; have q1 := bv.cell 1; have q2 := bv.cell 2; simp only [List.getElem?_cons_zero, List.getElem?_cons_succ] at q0 q1 q2; clear bv)
    | (go_at_call 10; refine (HM.out _ O1.out).mono ?_; rintro e w2 ⟨v, rfl, hown, o2⟩; obtain ⟨A', c', rfl, -, hcap, hnt⟩ := own_notes hown; have O2 := Lib.hid (O1.out.trans o2); have NT := Lib.hid hnt; clear hnt hown q0 q1 q2)
    | (have _T := O4; go_at_call 12; refine (HSG.out _).mono ?_; rintro e w5 ⟨rfl, o5⟩; have O5 := Lib.hid (O4.out.trans o5))
    | (have _T := NT; go_at_call 12; refine (HSG.out _).mono ?_; rintro e w3 ⟨rfl, o3⟩; have O3 := Lib.hid o3)
    | (go_at_call 11; refine (HGB.out _ A' c' (NT.out.only O3.out)).mono ?_; rintro e w4 ⟨v4, rfl, hown, o4⟩; obtain ⟨D, cD, rfl, -, -, hD⟩ := own_groups hown; have HD := Lib.hid hD; have O4 := Lib.hid (O3.out.trans o4); clear hown hD)
    | (go_at_call 13; refine (HGM.out _ A' c' (NT.out.only O5.out)).mono ?_; rintro e w6 ⟨v6, rfl, hown, o6⟩; obtain ⟨E, cE, rfl, -, -, hE⟩ := own_groups hown; have HE := Lib.hid hE; have O6 := Lib.hid (O5.out.trans o6); clear hown hE))
  have oDE := Lib.hid (o5.trans o6)
  go_loopw [10] (fun i wr => ∃ j : Nat, j ≤ G.length ∧ i = .int .i64 j ∧ Only [] w6 wr) (fun i _ => G.length - (intOf i).toNat)
  case atStart => exact ⟨0, by omega, rfl, Only.refl _ _⟩
  case round =>
    obtain ⟨j, hj, rfl, hO⟩ := hrel
    have HO := Lib.hid hO
    by_cases hlt : j < G.length
    · obtain ⟨ha, hb, hk, hp⟩ := HPR.out j hlt
      obtain ⟨D0, rfl, -, hDs, s0, s1⟩ := HD.out j hlt
      obtain ⟨E0, rfl, -, hEs, t0, t1⟩ := HE.out j hlt
      have x0 := ((oDE.out.trans hO).cell (p := ⟨D0, j * 2, none⟩) hDs (by simp)).trans s0
      have x1 := ((oDE.out.trans hO).cell (p := ⟨D0, j * 2 + 1, none⟩) hDs (by simp)).trans s1
      have y0 := (hO.cell (p := ⟨E0, j * 2, none⟩) hEs (by simp)).trans t0
      have y1 := (hO.cell (p := ⟨E0, j * 2 + 1, none⟩) hEs (by simp)).trans t1
      have hpv : 0 < j → ∃ pv : Nat, pv < G[j].1 ∧ wr.cell? ⟨D0, (j - 1) * 2 + 1, none⟩ = some (.int .i64 pv) := fun h0 => by
        have hj1 : j - 1 < G.length := by omega
        obtain ⟨D1, e1, -, hD1, -, z1⟩ := HD.out (j - 1) hj1
        simp only [Option.some.injEq, Addr.mk.injEq, and_true] at e1
        subst e1
        exact ⟨G[j - 1].2, hp (j - 1) hj1 (by omega), ((oDE.out.trans hO).cell (p := ⟨D0, (j - 1) * 2 + 1, none⟩) hD1 (by simp)).trans z1⟩
      obtain ⟨p, hpp⟩ : ∃ p, G[j] = p := ⟨_, rfl⟩
      rw [hpp] at ha hb hk x0 x1 y0 y1 hpv
      obtain ⟨fa, fb⟩ := p
      dsimp only at ha hb hk x0 x1 y0 y1 hpv
      have HK := Lib.hid hk
      have HX0 := Lib.hid x0
      have HX1 := Lib.hid x1
      have HJ := Lib.hid hlt
      have j0 : (0 : Int) ≤ (j : Int) := by omega
      have j1 : (j : Int) < (G.length : Int) := by omega
      clear hk hp hpp hO s0 s1 t0 t1 hlt
      by_cases hz : 0 < j
      · obtain ⟨pv, hpv1, hpv2⟩ := hpv hz
        have jw : IntKind.i64.wrap ((j : Int) - 1) = ((j - 1 : Nat) : Int) := by rw [IntWalk.i64_in _ (by omega)]; omega
        have jzb : decide (0 < j) = true := decide_eq_true hz
        have jx : (0 : Int) ≤ ((j - 1 : Nat) : Int) := by omega
        have jy : ((j - 1 : Nat) : Int) < (G.length : Int) := by omega
        have jqb : decide (fa ≤ pv) = false := decide_eq_false (by omega)
        clear hpv
        go_wp2_with fail
        go_quiet (fail)
        go_wp2
        clear y0 y1
        obtain ⟨V, hV⟩ : ∃ V, wr.drewN nq = V := ⟨_, rfl⟩
        have OV := Lib.hid (show Only [] w6 V by rw [← hV]; exact HO.out.drewN nq)
        have X0 : Hid (V.cell? ⟨D0, j * 2, none⟩ = some (.int .i64 fa)) := Lib.hid (by rw [← hV]; exact HX0.out)
        have X1 : Hid (V.cell? ⟨D0, j * 2 + 1, none⟩ = some (.int .i64 fb)) := Lib.hid (by rw [← hV]; exact HX1.out)
        have hDv := Lib.hid (show D0 < V.heap.size by have := OV.out.size; have := oDE.out.size; omega)
        try rw [hV]
        clear hV x0 x1
        go_loopw [11] (fun k w2 => ∃ k' : Nat, fa ≤ k' ∧ k' ≤ fb + 1 ∧ k = .int .i64 k' ∧ Only [] V w2) (fun k _ => fb + 1 - (intOf k).toNat)
        case atStart => exact ⟨fa, by omega, by omega, rfl, Only.refl _ _⟩
        case round =>
          obtain ⟨k, hk1, hk2, rfl, hO2⟩ := hrel
          have HO2 := Lib.hid hO2
          have c0 := (hO2.cell (p := ⟨D0, j * 2, none⟩) hDv.out (by simp)).trans X0.out
          have c1 := (hO2.cell (p := ⟨D0, j * 2 + 1, none⟩) hDv.out (by simp)).trans X1.out
          have k0 : (0 : Int) ≤ (k : Int) := by omega
          by_cases hkb : k ≤ fb
          · have hkl : k < l.length := by omega
            obtain ⟨hf1, hf2⟩ := HK.out k hk1 hkb
            have ex : ntAt l k = l[k] := by simp [ntAt, hkl]
            obtain ⟨b', off', rfl, hb', hcs⟩ := (NT.out.only (((((O3.out.trans o4).trans o5).trans o6).trans OV.out).trans hO2)) k hkl
            rw [← ex] at hcs
            have m2 := hcs 2 (by omega)
            have m3 := hcs 3 (by omega)
            simp only [Nt.vs, List.getElem?_cons_zero, List.getElem?_cons_succ] at m2 m3
            obtain ⟨x, hx⟩ : ∃ x, ntAt l k = x := ⟨_, rfl⟩
            rw [hx] at m2 m3 hf1 hf2
            have k1 : (k : Int) < (l.length : Int) := by omega
            have e1 : (x.fl == 0) = false := by simpa using hf1
            have hl16 := HVL.out
            clear hcs hx ex hb' hO2 hf1
            by_cases hfk : fa < k
            · have d1 : decide (fa < k) = true := decide_eq_true hfk
              have e2 : (x.st == 1) = false := by simpa using hf2 hfk
              clear hf2
              go_wp2_with fail
              go_roundw
              case rel => exact ⟨k + 1, by omega, by omega, by go_num, HO2.out⟩
              case measure => simp [intOf]; omega
            · have d1 : decide (fa < k) = false := decide_eq_false hfk
              clear hf2
              go_wp2_with fail
              go_roundw
              case rel => exact ⟨k + 1, by omega, by omega, by go_num, HO2.out⟩
              case measure => simp [intOf]; omega
          · clear hO2
            go_wp2_with fail
            go_roundw
            case rel => exact ⟨j + 1, by have := HJ.out; omega, by go_num, OV.out.trans HO2.out⟩
            case measure => have := HJ.out; simp [intOf]; omega
      · have jzb : decide (0 < j) = false := decide_eq_false hz
        clear hpv
        go_wp2_with fail
        go_quiet (fail)
        go_wp2
        clear y0 y1
        obtain ⟨V, hV⟩ : ∃ V, wr.drewN nq = V := ⟨_, rfl⟩
        have OV := Lib.hid (show Only [] w6 V by rw [← hV]; exact HO.out.drewN nq)
        have X0 : Hid (V.cell? ⟨D0, j * 2, none⟩ = some (.int .i64 fa)) := Lib.hid (by rw [← hV]; exact HX0.out)
        have X1 : Hid (V.cell? ⟨D0, j * 2 + 1, none⟩ = some (.int .i64 fb)) := Lib.hid (by rw [← hV]; exact HX1.out)
        have hDv := Lib.hid (show D0 < V.heap.size by have := OV.out.size; have := oDE.out.size; omega)
        try rw [hV]
        clear hV x0 x1
        go_loopw [11] (fun k w2 => ∃ k' : Nat, fa ≤ k' ∧ k' ≤ fb + 1 ∧ k = .int .i64 k' ∧ Only [] V w2) (fun k _ => fb + 1 - (intOf k).toNat)
        case atStart => exact ⟨fa, by omega, by omega, rfl, Only.refl _ _⟩
        case round =>
          obtain ⟨k, hk1, hk2, rfl, hO2⟩ := hrel
          have HO2 := Lib.hid hO2
          have c0 := (hO2.cell (p := ⟨D0, j * 2, none⟩) hDv.out (by simp)).trans X0.out
          have c1 := (hO2.cell (p := ⟨D0, j * 2 + 1, none⟩) hDv.out (by simp)).trans X1.out
          have k0 : (0 : Int) ≤ (k : Int) := by omega
          by_cases hkb : k ≤ fb
          · have hkl : k < l.length := by omega
            obtain ⟨hf1, hf2⟩ := HK.out k hk1 hkb
            have ex : ntAt l k = l[k] := by simp [ntAt, hkl]
            obtain ⟨b', off', rfl, hb', hcs⟩ := (NT.out.only (((((O3.out.trans o4).trans o5).trans o6).trans OV.out).trans hO2)) k hkl
            rw [← ex] at hcs
            have m2 := hcs 2 (by omega)
            have m3 := hcs 3 (by omega)
            simp only [Nt.vs, List.getElem?_cons_zero, List.getElem?_cons_succ] at m2 m3
            obtain ⟨x, hx⟩ : ∃ x, ntAt l k = x := ⟨_, rfl⟩
            rw [hx] at m2 m3 hf1 hf2
            have k1 : (k : Int) < (l.length : Int) := by omega
            have e1 : (x.fl == 0) = false := by simpa using hf1
            have hl16 := HVL.out
            clear hcs hx ex hb' hO2 hf1
            by_cases hfk : fa < k
            · have d1 : decide (fa < k) = true := decide_eq_true hfk
              have e2 : (x.st == 1) = false := by simpa using hf2 hfk
              clear hf2
              go_wp2_with fail
              go_roundw
              case rel => exact ⟨k + 1, by omega, by omega, by go_num, HO2.out⟩
              case measure => simp [intOf]; omega
            · have d1 : decide (fa < k) = false := decide_eq_false hfk
              clear hf2
              go_wp2_with fail
              go_roundw
              case rel => exact ⟨k + 1, by omega, by omega, by go_num, HO2.out⟩
              case measure => simp [intOf]; omega
          · clear hO2
            go_wp2_with fail
            go_roundw
            case rel => exact ⟨j + 1, by have := HJ.out; omega, by go_num, OV.out.trans HO2.out⟩
            case measure => have := HJ.out; simp [intOf]; omega
    · have O9 := Lib.hid ((((((O2.out.trans O3.out).trans o4).trans o5).trans o6)).trans hO)
      clear hO
      go_wp2_with fail
      go_ret
      exact ⟨rfl, O9.out⟩
end Go.Proofs.Ytglkpoiajebleaa
