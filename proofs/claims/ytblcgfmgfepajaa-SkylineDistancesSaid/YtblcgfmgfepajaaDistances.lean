/- DERIVED. SkylineDistances: the walk. -/
import Derived.Test.YtblcgfmgfepajaaDist
import Derived.Test.YtblcgfmgfepajaaTwo
namespace Go.Proofs.Ytblcgfmgfepajaa
open Go.RowKit

set_option maxRecDepth 20000 in
set_option maxHeartbeats 2000000 in
theorem distances_any (bl : Bool) (c hh : Int) (hc0 : 0 ≤ c) (hc1 : c ≤ 255) (hr : -32768 ≤ hh ∧ hh ≤ 32767) (w : World) (A B : Option Addr) (ca cb : Nat) (opa opb : List OpR) (x : Int) (hoa : OpsAt w A opa) (hob : OpsAt w B opb) (gap : Int) :
    Calls Try.prog 8 #[startV bl c hh, .agg #[.slice A opa.length ca, .slice B opb.length cb, .int .i64 x], .int .i64 gap] w
      fun e w' => e = .returned (.bool true) ∧ Only [] w w' := by
  obtain ⟨k, hk⟩ : ∃ k, (if hh < -32767 then -32767 else hh) = k := ⟨_, rfl⟩
  have hk1 : -32767 ≤ k ∧ k ≤ 32767 := by split at hk <;> omega
  have wk : IntKind.i16.wrap (-k) = -k := IntWalk.i16_in _ (by omega)
  have HP1 := Lib.hid (fun W hW => play_any true c hh hc0 hc1 hr W A ca opa hW)
  have HP2 := Lib.hid (fun W hW => play_any false c (-k) hc0 hc1 (by omega) W B cb opb hW)
  simp only [if_true, Bool.false_eq_true, if_false] at HP1 HP2
  generalize hH1 : playTo (-1) (newH (-1) (1 + c.toNat % 40) hh) opa 20 = H1 at HP1
  generalize hH2 : playTo 1 (newH 1 (1 + c.toNat % 40) (-k)) opb 20 = H2 at HP2
  have hl : H1.length = H2.length := by rw [← hH1, ← hH2, playTo_len, playTo_len, newH_len, newH_len]
  have HL := Lib.hid hl
  have HOA := Lib.hid hoa
  have HOB := Lib.hid hob
  have OB := Lib.hid (((Only.refl [] w).alloc (.cells #[.bool bl, .int .u8 c, .int .i16 hh] 35)).alloc (.cells #[.slice A opa.length ca, .slice B opb.length cb, .int .i64 x] 63))
  have SS := Lib.hid ((Blk.new w 35 [.bool bl, .int .u8 c, .int .i16 hh]).alloc (.cells #[.slice A opa.length ca, .slice B opb.length cb, .int .i64 x] 63))
  have TT : Hid (Blk ((w.alloc (.cells #[.bool bl, .int .u8 c, .int .i16 hh] 35)).alloc (.cells #[.slice A opa.length ca, .slice B opb.length cb, .int .i64 x] 63)) (w.heap.size + 1) 63 [.slice A opa.length ca, .slice B opb.length cb, .int .i64 x]) := Lib.hid (by
    have := Blk.new (w.alloc (.cells #[.bool bl, .int .u8 c, .int .i16 hh] 35)) 63 [.slice A opa.length ca, .slice B opb.length cb, .int .i64 x]
    rw [World.size_alloc] at this
    exact this)
  clear hoa hob hl hH1 hH2
  have HG : sizeB gap = true ∨ sizeB gap = false := by cases sizeB gap <;> simp
  have HGG := Lib.hid HG
  clear HG
  go_enter Try.func8, Try.ntmps8
  go_wp2_with (first
    | (go_at_call 13; refine (known_any _).mono ?_; rintro e w1 ⟨rfl, ho1⟩; have s := SS.out.only ho1 (by simp); have s0 := s.cell 0; have s1 := s.cell 1; have s2 := s.cell 2; have f0 := s.frozen 0; have f2 := s.frozen 2; simp at s0 s1 s2; have TT1 := TT.out.only ho1 (by simp); have t10 := TT1.cell 0; simp at t10)
    | (have _T := T; go_at_call 23; refine (HP2.out _ (HOB.out.only ((((OB.out.trans ho1).setCell (p := ⟨w.heap.size, 0, none⟩) (.inr (Nat.le_refl _)) (.bool true)).trans ho2).setCell (p := ⟨w.heap.size, 0, none⟩) (.inr (Nat.le_refl _)) (.bool false) |>.setCell (p := ⟨w.heap.size, 2, none⟩) (.inr (Nat.le_refl _)) (.int .i16 (-k))))).mono ?_; rintro e w3 ⟨s', g', m', k', cap', sp', rfl, hs', hg', hm', hk', hb', ho3⟩)
    | (go_at_call 23; refine (HP1.out _ (HOA.out.only ((OB.out.trans ho1).setCell (p := ⟨w.heap.size, 0, none⟩) (.inr (Nat.le_refl _)) (.bool true)))).mono ?_; rintro e w2 ⟨s1, g1, m1, k1, cap, sp, rfl, hs, hg, hm, hkk, hb, ho2⟩; have T := (s.set_ 0 (.bool true)).only ho2 (by simp); have t0 := T.cell 0; have t1 := T.cell 1; have t2 := T.cell 2; have g0 := T.frozen 0; have g2 := T.frozen 2; simp at t0 t1 t2; have TT2 := (TT1.far (p := ⟨w.heap.size, 0, none⟩) (by simp) (.bool true)).only ho2 (by simp); have t21 := TT2.cell 1; simp at t21))
  simp at hs hg hs' hg' hm hkk hm' hk'
  have l0 := s.lt
  have O2 : Only [w.heap.size] w2 w3 := ((((Only.refl [w.heap.size] w2).setCell (p := ⟨w.heap.size, 0, none⟩) (.inl (by simp)) (.bool false)).setCell (p := ⟨w.heap.size, 2, none⟩) (.inl (by simp)) (.int .i16 (-k))).trans (ho3.more (by simp)))
  have hX : Only [] w w3 := (((((OB.out.trans ho1).setCell (p := ⟨w.heap.size, 0, none⟩) (.inr (Nat.le_refl _)) (.bool true)).trans ho2).setCell (p := ⟨w.heap.size, 0, none⟩) (.inr (Nat.le_refl _)) (.bool false)).setCell (p := ⟨w.heap.size, 2, none⟩) (.inr (Nat.le_refl _)) (.int .i16 (-k))).trans ho3
  have SA : Sky w3 s1 g1 (-1) H1 := hb.sky.only O2 (by simp; omega) (by simp; omega)
  have MA : Mod w3 m1 k1 cap sp (-1) H1 := hb.mod.only O2 (by simp; omega) (by simp; omega)
  have SB := hb'.sky
  have MB := hb'.mod
  have hl := HL.out
  have HXX := Lib.hid hX
  clear hX O2 l0 hb hb' ho1 ho2 ho3 hs hg hs' hg' hm hkk hm' hk' SS OB _T TT TT1 TT2 t0 t1 t2 t10 t21 g0 g2 f0 f2 s0 s2 HP1 HP2 hk wk HOA HOB HL hk1
  rcases HGG.out with hG | hG
  · have HG := Lib.hid hG
    have hgr := sizeB_iff.1 hG
    refine (dist_ok SA SB hl gap hG).mono ?_
    rintro e w4 ⟨⟨M, rfl, hM⟩, n, rfl⟩
    have HM := Lib.hid hM
    have hML := hM.low
    clear hG hM
    go_wp2_with (first
      | (go_at_call 30; refine (dist_kind (SB.drewN _) (SA.drewN _) 0).mono ?_; rintro e w5 ⟨rfl, rfl⟩)
      | (go_at_call 31; refine (msz_any _ _).mono ?_; rintro e w5 ⟨rfl, rfl⟩; rw [HG.out]))
    obtain ⟨q0, hq1, hq2, hq3⟩ := HM.out.ex
    have HQ := Lib.hid hq3
    have hfew := SA.few
    clear hq3
    go_loopw [15, 16] (fun a i wr => ∃ (j n : Nat) (ex : Bool), j ≤ H1.length ∧ i = .int .i64 j ∧ a = .bool ex ∧ wr = w3.drewN n ∧ (q0 < j → ex = true)) (fun _ i _ => H1.length - (intOf i).toNat)
    case atStart => exact ⟨0, _, _, Nat.zero_le _, rfl, rfl, rfl, fun h => absurd h (by omega)⟩
    case round =>
      obtain ⟨j, n, ex, hj, rfl, rfl, rfl, hex⟩ := hrel
      have c0 := MA.h0
      have d0 := MB.h0
      rw [← hl] at d0
      by_cases hlt : j < H1.length
      · have hlt' : j < H2.length := by omega
        have c1 := MA.at_ hlt
        have d1 := MB.at_ hlt'
        have v1 := MA.low H1[j] (List.getElem_mem hlt)
        have v2 := MB.low H2[j] (List.getElem_mem hlt')
        have v3 := HM.out.le j hlt hlt'
        have HE : Hid (q0 = j → H1[j] + H2[j] = M) := Lib.hid (by rintro rfl; exact HQ.out)
        have HEX := Lib.hid hex
        obtain ⟨p, hp⟩ : ∃ p, -1 * H1[j] = p := ⟨_, rfl⟩
        obtain ⟨r, hr'⟩ : ∃ r, 1 * H2[j] = r := ⟨_, rfl⟩
        rw [hp] at c1
        rw [hr'] at d1
        have HPP : Hid (p = -H1[j] ∧ r = H2[j]) := Lib.hid ⟨by omega, by omega⟩
        have pb : -1048576 ≤ p ∧ p ≤ 1048576 := by omega
        have rb : -1048576 ≤ r ∧ r ≤ 1048576 := by omega
        have e1 : IntKind.i64.wrap (M + gap + p) = M + gap + p := IntWalk.i64_in _ (by omega)
        have e2 : IntKind.i64.wrap (M + gap + p - r) = M + gap + p - r := IntWalk.i64_in _ (by omega)
        have e3 : ¬ (M + gap + p - r) < gap := by omega
        have j0 : (0 : Int) ≤ (j : Int) := by omega
        have j1 : (j : Int) < (H1.length : Int) := by omega
        clear hp hr' v3 hex v1 v2
        cases ex
        · by_cases h4 : M + gap + p - r = gap
          · have h5 : (M + gap + p - r == gap) = true := by simpa using h4
            clear h4
            go_wp2
            go_quiet (fail)
            go_wp2
            go_quiet (fail)
            go_wp2
            go_roundw
            case rel => exact ⟨j + 1, _, true, by omega, by go_num, rfl, rfl, fun _ => rfl⟩
            case measure => simp [intOf]; omega
          · have h5 : (M + gap + p - r == gap) = false := by simpa using h4
            have H4 := Lib.hid h4
            clear h4
            go_wp2
            go_quiet (fail)
            go_wp2
            go_quiet (fail)
            go_wp2
            go_roundw
            case rel =>
              refine ⟨j + 1, _, false, by omega, by go_num, rfl, rfl, fun hq => ?_⟩
              by_cases e : q0 = j
              · have a1 := HE.out e
                have a2 := HPP.out
                exact absurd (show M + gap + p - r = gap by omega) H4.out
              · exact HEX.out (by omega)
            case measure => simp [intOf]; omega
        · go_wp2
          go_quiet (fail)
          go_wp2
          go_quiet (fail)
          go_wp2
          go_roundw
          case rel => exact ⟨j + 1, _, true, by omega, by go_num, rfl, rfl, fun _ => rfl⟩
          case measure => simp [intOf]; omega
      · obtain rfl : j = H1.length := by omega
        obtain rfl := hex hq1
        go_wp2
        go_ret
        exact ⟨rfl, HXX.out.drewN _⟩
  · have HG := Lib.hid hG
    refine (dist_size SA SB hl gap hG).mono ?_
    rintro e w4 ⟨rfl, n, rfl⟩
    clear hG
    go_wp2_with (first
      | (go_at_call 30; refine (dist_kind (SB.drewN _) (SA.drewN _) 0).mono ?_; rintro e w5 ⟨rfl, rfl⟩)
      | (go_at_call 31; refine (msz_any _ _).mono ?_; rintro e w5 ⟨rfl, rfl⟩; rw [HG.out]))
    go_ret
    exact ⟨rfl, HXX.out.drewN _⟩
end Go.Proofs.Ytblcgfmgfepajaa
