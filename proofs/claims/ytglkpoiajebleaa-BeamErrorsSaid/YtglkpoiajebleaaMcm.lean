/- DERIVED. The statements of chapter 26: checkGroup, checkMetre. -/
import Derived.Test.YtglkpoiajebleaaMck
import Derived.Test.YtglkpoiajebleaaGpm
namespace Go.Proofs.Ytglkpoiajebleaa
open Go.RowKit

set_option maxRecDepth 20000 in
set_option maxHeartbeats 16000000 in
theorem mcheckGroup_any {w : World} {A : Option Addr} {l : List Nt} (c : Nat) (h : NotesAt w A l) (hl : l.length ≤ 128) (f k : Int) :
    Calls Try.prog 21 #[.slice A l.length c, grpV f k] w fun e w' => e = .returned (.int .i64 (gE l f k)) ∧ Only [] w w' := by
  have H := Lib.hid h
  have O0 := Lib.hid ((Only.refl [] w).alloc (.cells #[.int .i64 f, .int .i64 k] 40))
  have BG := Lib.hid (Blk.new w 40 [.int .i64 f, .int .i64 k])
  by_cases hb : f < 0 ∨ k ≤ f ∨ (l.length : Int) ≤ k
  · have HG := Lib.hid (show gE l f k = 2 by unfold gE; rw [if_pos hb])
    rw [HG.out]
    by_cases h1 : f < 0
    · clear hb h
      go_enter Try.func21, Try.ntmps21
      go_wp2_with fail
      go_ret
      exact ⟨rfl, O0.out⟩
    by_cases h2 : k ≤ f
    · clear hb h
      go_enter Try.func21, Try.ntmps21
      go_wp2_with fail
      go_ret
      exact ⟨rfl, O0.out⟩
    have h3 : (l.length : Int) ≤ k := by omega
    clear hb h
    go_enter Try.func21, Try.ntmps21
    go_wp2_with fail
    go_ret
    exact ⟨rfl, O0.out⟩
  · obtain ⟨F, rfl⟩ := Int.eq_ofNat_of_zero_le (show 0 ≤ f by omega)
    obtain ⟨K, rfl⟩ := Int.eq_ofNat_of_zero_le (show 0 ≤ k by omega)
    have HB := Lib.hid hb
    have f1 : ¬ (F : Int) < 0 := by omega
    have f2 : ¬ (K : Int) ≤ (F : Int) := by omega
    have f3 : ¬ (l.length : Int) ≤ (K : Int) := by omega
    have HGE : Hid (gE l F K = if ∃ i, ∃ h : i < l.length, (F : Int) ≤ (i : Int) ∧ (i : Int) ≤ (K : Int) ∧ l[i].fl = 0 then 10 else 0) := Lib.hid (by unfold gE; rw [if_neg hb])
    have hFK : F < K ∧ K < l.length := by omega
    obtain ⟨R, hR⟩ : ∃ R, gE l F K = R := ⟨_, rfl⟩
    rw [hR] at HGE ⊢
    clear hb h hR
    go_enter Try.func21, Try.ntmps21
    go_wp2_with fail
    clear f1 f2 f3
    go_loopw [5] (fun i wr => ∃ j : Nat, F ≤ j ∧ j ≤ K + 1 ∧ i = .int .i64 j ∧ Hid (∀ r (hr : r < l.length), F ≤ r → r < j → l[r].fl ≠ 0) ∧ Only [] (w.alloc (.cells #[.int .i64 (F : Int), .int .i64 (K : Int)] 40)) wr) (fun i _ => K + 1 - (intOf i).toNat)
    case atStart => exact ⟨F, by omega, by omega, rfl, Lib.hid (fun r _ h1 h2 => absurd h2 (by omega)), Only.refl _ _⟩
    case round =>
      obtain ⟨j, hj0, hj, rfl, HA, hO⟩ := hrel
      have HO := Lib.hid (O0.out.trans hO)
      have HOx := Lib.hid hO
      have hbg := BG.out.only hO (by simp)
      have q0 := hbg.cell 0
      have q1 := hbg.cell 1
      simp only [List.getElem?_cons_zero, List.getElem?_cons_succ] at q0 q1
      clear hbg
      by_cases hjK : j ≤ K
      · have hjl : j < l.length := by omega
        obtain ⟨b, off, rfl, hb', hcs⟩ := (H.out.only HO.out) j hjl
        have m2 := hcs 2 (by omega)
        simp only [Nt.vs, List.getElem?_cons_zero, List.getElem?_cons_succ] at m2
        obtain ⟨x, hx⟩ : ∃ x, l[j] = x := ⟨_, rfl⟩
        rw [hx] at m2
        have HX := Lib.hid hx
        have j0 : (0 : Int) ≤ (j : Int) := by omega
        have j1 : (j : Int) < (l.length : Int) := by omega
        by_cases hz : x.fl = 0
        · have hz' : (x.fl == 0) = true := by simpa using hz
          have HR := Lib.hid (show R = 10 by rw [HGE.out, if_pos ⟨j, hjl, by omega, by omega, by rw [hx]; exact hz⟩])
          clear hcs hx hO hz
          go_wp2_with fail
          go_ret
          exact ⟨ret_int HR.out.symm, HO.out⟩
        · have hz' : (x.fl == 0) = false := by simpa using hz
          have HA2 := Lib.hid (show ∀ r (hr : r < l.length), F ≤ r → r < j + 1 → l[r].fl ≠ 0 from fun r hr h1 h2 => by
            by_cases e : r = j
            · subst e; rw [hx]; exact hz
            · exact HA.out r hr h1 (by omega))
          clear hcs hx hO hz
          go_wp2_with fail
          go_roundw
          case rel => exact ⟨j + 1, by omega, by omega, by go_num, HA2, HOx.out⟩
          case measure => simp [intOf]; omega
      · have HR := Lib.hid (show R = 0 by
          rw [HGE.out, if_neg]
          rintro ⟨i, hi, h1, h2, h3⟩
          exact HA.out i hi (by omega) (by omega) h3)
        clear hO
        go_wp2_with fail
        go_ret
        exact ⟨ret_int HR.out.symm, HO.out⟩

set_option maxRecDepth 20000 in
set_option maxHeartbeats 16000000 in
theorem mcheckMetre_any {w : World} {A : Option Addr} {l : List Nt} (m : Met) (off : Int) (c : Nat) (h : NotesAt w A l) (hl : l.length ≤ 128) :
    Calls Try.prog 20 #[metV m, .int .i64 off, .slice A l.length c] w fun e w' => e = .returned (.int .i64 (allE m off l)) ∧ Only [] w w' := by
  have H := Lib.hid h
  have HC := Lib.hid (Check_any m)
  have HE := Lib.hid (show allE m off l = if m.chk ≠ 0 then m.chk else if ¬ (0 ≤ off ∧ off ≤ 4398046511104) then 2 else if ntE none l ≠ 0 then ntE none l else lateE off l from rfl)
  obtain ⟨R, hR⟩ : ∃ R, allE m off l = R := ⟨_, rfl⟩
  rw [hR] at HE ⊢
  obtain ⟨r, hr⟩ : ∃ r, m.chk = r := ⟨_, rfl⟩
  rw [hr] at HE HC
  have O0 := Lib.hid ((Only.refl [] w).alloc (metBox m))
  have HN := Lib.hid fun w2 (o : Only [] w w2) => mcheck_any c (h.only o) hl
  obtain ⟨q, hq⟩ : ∃ q, ntE none l = q := ⟨_, rfl⟩
  rw [hq] at HN HE
  have HQ := Lib.hid hq
  clear h hR hr hq
  by_cases h0 : r = 0
  · subst h0
    by_cases o1 : off < 0
    · have HV := Lib.hid (show R = 2 by rw [HE.out, if_neg (by simp), if_pos (by omega)])
      go_enter Try.func20, Try.ntmps20
      go_wp2_with (go_at_call 37; refine (HC.out _).mono ?_; rintro e w1 ⟨rfl, o1⟩; have O1 := Lib.hid (O0.out.trans o1))
      go_ret
      exact ⟨ret_int HV.out.symm, O1.out⟩
    by_cases o2 : 4398046511104 < off
    · have HV := Lib.hid (show R = 2 by rw [HE.out, if_neg (by simp), if_pos (by omega)])
      go_enter Try.func20, Try.ntmps20
      go_wp2_with (go_at_call 37; refine (HC.out _).mono ?_; rintro e w1 ⟨rfl, o1⟩; have O1 := Lib.hid (O0.out.trans o1))
      go_ret
      exact ⟨ret_int HV.out.symm, O1.out⟩
    by_cases h2 : q = 0
    · subst h2
      have HOK := Lib.hid (ntE_ok l none HQ.out)
      have HEV := Lib.hid (show R = lateE off l by rw [HE.out, if_neg (by simp), if_neg (by omega), if_neg (by simp)])
      go_enter Try.func20, Try.ntmps20
      go_wp2_with (first
        | (go_at_call 37; refine (HC.out _).mono ?_; rintro e w1 ⟨rfl, o1⟩; have O1 := Lib.hid (O0.out.trans o1))
        | (go_at_call 22; refine (HN.out _ O1.out).mono ?_; rintro e w2 ⟨rfl, o2⟩; have O2 := Lib.hid (O1.out.trans o2)))
      go_loopw [9] (fun i wr => ∃ j : Nat, j ≤ l.length ∧ i = .int .i64 j ∧ Hid (∀ r (hr : r < l.length), r < j → off + l[r].t ≤ 4398046511104) ∧ Only [] w wr) (fun i _ => l.length - (intOf i).toNat)
      case atStart => exact ⟨0, by omega, rfl, Lib.hid (fun r _ h => absurd h (by omega)), O2.out⟩
      case round =>
        obtain ⟨j, hj, rfl, HA, hO⟩ := hrel
        by_cases hlt : j < l.length
        · have hx1 := (HOK.out l[j] (List.getElem_mem _)).c0
          obtain ⟨b, off', rfl, hb, hcs⟩ := (H.out.only hO) j hlt
          have m0 := hcs 0 (by omega)
          simp only [Nt.vs, List.getElem?_cons_zero, List.getElem?_cons_succ, Nat.add_zero] at m0
          clear hcs
          obtain ⟨x, hx⟩ : ∃ x, l[j] = x := ⟨_, rfl⟩
          rw [hx] at m0 hx1
          have j0 : (0 : Int) ≤ (j : Int) := by omega
          have j1 : (j : Int) < (l.length : Int) := by omega
          have HX := Lib.hid hx
          have hw : IntKind.i64.wrap (off + x.t) = off + x.t := IntWalk.i64_in _ (by omega)
          have HO := Lib.hid hO
          clear hx hb hO
          by_cases hc : 4398046511104 < off + x.t
          · have HV := Lib.hid (show R = 2 by rw [HEV.out, lateE, if_pos ⟨x, by rw [← HX.out]; exact List.getElem_mem _, hc⟩])
            go_wp2_with fail
            go_ret
            exact ⟨ret_int HV.out.symm, HO.out⟩
          · have HA2 := Lib.hid (show ∀ r (hr : r < l.length), r < j + 1 → off + l[r].t ≤ 4398046511104 from fun r hr h => by
              by_cases e : r = j
              · subst e; rw [HX.out]; omega
              · exact HA.out r hr (by omega))
            go_wp2_with fail
            go_roundw
            case rel => exact ⟨j + 1, by omega, by go_num, HA2, HO.out⟩
            case measure => simp [intOf]; omega
        · have hn : ¬ ∃ x ∈ l, 4398046511104 < off + x.t := by
            rintro ⟨x, hx, h⟩
            obtain ⟨r, hr, rfl⟩ := List.mem_iff_getElem.1 hx
            have := HA.out r hr (by omega)
            omega
          have HV := Lib.hid (show R = 0 by rw [HEV.out, lateE, if_neg hn])
          have HO := Lib.hid hO
          clear hn hO
          go_wp2_with fail
          go_ret
          exact ⟨ret_int HV.out.symm, HO.out⟩
    · have HV := Lib.hid (show R = q by rw [HE.out, if_neg (by simp), if_neg (by omega), if_pos h2])
      go_enter Try.func20, Try.ntmps20
      go_wp2_with (first
        | (go_at_call 37; refine (HC.out _).mono ?_; rintro e w1 ⟨rfl, o1⟩; have O1 := Lib.hid (O0.out.trans o1))
        | (go_at_call 22; refine (HN.out _ O1.out).mono ?_; rintro e w2 ⟨rfl, o2⟩; have O2 := Lib.hid (O1.out.trans o2)))
      go_ret
      exact ⟨ret_int HV.out.symm, O2.out⟩
  · have HV := Lib.hid (show R = r by rw [HE.out, if_pos h0])
    go_enter Try.func20, Try.ntmps20
    go_wp2_with (go_at_call 37; refine (HC.out _).mono ?_; rintro e w1 ⟨rfl, o1⟩; have O1 := Lib.hid (O0.out.trans o1))
    go_ret
    exact ⟨ret_int HV.out.symm, O1.out⟩
end Go.Proofs.Ytglkpoiajebleaa
