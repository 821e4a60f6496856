/- DERIVED. Contracts of package metre: level, Level; of package beam: level. -/
import Derived.Test.YtglkpoiajebleaaSig
namespace Go.Proofs.Ytglkpoiajebleaa
open Go.RowKit

theorem beatsL_pos {m : Met} (h : m.chk = 0) : 0 < m.beatsL.length := by
  have hk := Met.ok_of h
  have h1 := hk.c1
  unfold Met.beatsL
  by_cases hz : m.z = true
  · rw [if_pos hz]
    unfold Met.zL
    by_cases h3 : m.three
    · rw [if_pos h3, List.length_replicate]; have := h3.2; omega
    · rw [if_neg h3, List.length_replicate]; omega
  · rw [if_neg hz]
    have hz' : m.z = false := by simpa using hz
    obtain ⟨r, hr⟩ := Met.grpL_of h hz'
    apply Classical.byContradiction
    intro hn
    apply hz
    have e : m.gs = m.g0 :: [m.g1, m.g2, m.g3, m.g4, m.g5] := rfl
    have hall := grpL_zero m.gs 0 0 0 ⟨r, hr⟩ (Int.le_refl _)
    have a0 := hall 0 (by show 0 < 6; omega) (by omega)
    have a1 := hall 1 (by show 1 < 6; omega) (by omega)
    have a2 := hall 2 (by show 2 < 6; omega) (by omega)
    have a3 := hall 3 (by show 3 < 6; omega) (by omega)
    have a4 := hall 4 (by show 4 < 6; omega) (by omega)
    have a5 := hall 5 (by show 5 < 6; omega) (by omega)
    simp only [Met.gs, List.getElem_cons_zero, List.getElem_cons_succ] at a0 a1 a2 a3 a4 a5
    unfold Met.z
    simp [a0, a1, a2, a3, a4, a5]

def halv (t : Int) : Nat → Int → Int → Int
  | 0, _, _ => 15
  | f + 1, k, q => if q % 2 = 0 ∧ 7560 ≤ q / 2 then (if t % (q / 2) = 0 then 3 + k else halv t f (k + 1) (q / 2)) else 15
/-- The metrical level of a tick of a measure. -/
def levE (m : Met) (gs : List Int) (t : Int) : Int :=
  if t = 0 then 0 else if 2 * t = m.len ∧ gs.length % 2 = 0 ∧ Lib.minOf gs = Lib.maxOf gs then 1 else if (bts m.un gs 0).contains t = true then 2 else if t % m.un = 0 then 3 else halv t 1935361 1 m.un

theorem row_cells {w : World} {g : Nat} {l : List Int} (h : Row w g l) : ∀ j, j < l.length → w.cell? ⟨g, 0 + j, none⟩ = some (.int .i64 (l.getD j 0)) := fun j hj => by
  rw [Nat.zero_add, h j hj]
  simp [List.getD, hj]

def BRow (w' : World) (B : Nat) (A : Option Addr) (bs : List Int) : Prop := ∀ i (h : i < bs.length), ∃ D, A = some ⟨D, 0, none⟩ ∧ B ≤ D ∧ w'.cell? ⟨D, i, none⟩ = some (.int .i64 bs[i])

theorem brow_row {w : World} {B D : Nat} {l : List Int} (h : BRow w B (some ⟨D, 0, none⟩) l) : Row w D l := fun i hi => by
  obtain ⟨D', e, -, hc⟩ := h i hi
  simp only [Option.some.injEq, Addr.mk.injEq, and_true] at e
  subst e
  exact hc

set_option maxRecDepth 20000 in
set_option maxHeartbeats 32000000 in
theorem level_any (m : Met) (hc : m.chk = 0) (gs : List Int) (hG : GrpC m gs) (hl : gs.length ≤ 64) (h0 : 0 < gs.length) (hg : ∀ x ∈ gs, 0 ≤ x ∧ x ≤ 64) (t : Int) (h1 : 0 ≤ t) (h2 : t ≤ 4398046511104) (w : World) :
    Calls Try.prog 46 #[metV m, .int .i64 t] w fun e w' => e = .returned (.int .i64 (levE m gs (t % m.len))) ∧ Only [] w w' := by
  have hk := Met.ok_of hc
  have hr := un_rng hk.u1 hk.u2
  have hlr := len_rng hk.c1 hk.c2 hr.1 hr.2
  have hL1 : 30240 ≤ m.len ∧ m.len ≤ 123863040 := hlr
  have hU1 : 30240 ≤ m.un ∧ m.un ≤ 1935360 := hr
  have q0 : 0 ≤ t % m.len := Int.emod_nonneg _ (by omega)
  have q1 : t % m.len < m.len := Int.emod_lt_of_pos _ (by omega)
  have HLE := Lib.hid (length_any m hk.c1 hk.c2 hk.u1 hk.u2)
  have HUN := Lib.hid (unit_any m hk.u1 hk.u2)
  have HBT := Lib.hid (show ∀ w, Calls Try.prog 45 #[metV m] w fun e w' => ∃ A cap, e = .returned (.slice A gs.length cap) ∧ BRow w' w.heap.size A (bts m.un gs 0) ∧ Only [] w w' from beats_any m hk gs hG hl hg)
  have HGR := Lib.hid hG
  have HLV := Lib.hid (show ∀ t, levE m gs t = if t = 0 then 0 else if 2 * t = m.len ∧ gs.length % 2 = 0 ∧ Lib.minOf gs = Lib.maxOf gs then 1 else if (bts m.un gs 0).contains t = true then 2 else if t % m.un = 0 then 3 else halv t 1935361 1 m.un from fun _ => rfl)
  have HMN := Lib.hid fun (g cap : Nat) (w2 : World) (hrw : Row w2 g gs) => (Try.slices_Min_int g 0 gs.length cap gs w2 h0 (Nat.le_refl _) (by omega) (row_cells hrw))
  have HMX := Lib.hid fun (g cap : Nat) (w2 : World) (hrw : Row w2 g gs) => (Try.slices_Max_int g 0 gs.length cap gs w2 h0 (Nat.le_refl _) (by omega) (row_cells hrw))
  rw [List.take_length] at HMN HMX
  have BM := Lib.hid (Blk.new w 36 (metL m))
  have OM := Lib.hid ((Only.refl [] w).alloc (metBox m))
  have hbl := bts_len m.un gs 0
  obtain ⟨L, hL⟩ : ∃ L, m.len = L := ⟨_, rfl⟩
  obtain ⟨U, hU⟩ : ∃ U, m.un = U := ⟨_, rfl⟩
  rw [hL] at q0 q1 HLE HLV hL1 ⊢
  rw [hU] at HUN HBT HLV hU1 hbl
  obtain ⟨bs, hbs⟩ : ∃ bs, bts U gs 0 = bs := ⟨_, rfl⟩
  rw [hbs] at HLV hbl HBT
  have qL : Int.tmod t L = t % L := Int.tmod_eq_emod_of_nonneg h1
  obtain ⟨r, hrr⟩ : ∃ r, t % L = r := ⟨_, rfl⟩
  rw [hrr] at q0 q1 qL ⊢
  have nL : ¬ L = 0 := by omega
  clear hk hr hlr hc hG hL hU hbs hg
  have OC := Lib.hid (Only.refl [] (w.alloc (metBox m)))
  have OC := Lib.hid (Only.refl [] (w.alloc (metBox m)))
  have OC := Lib.hid (Only.refl [] (w.alloc (metBox m)))
  have OC := Lib.hid (Only.refl [] (w.alloc (metBox m)))
  have OC := Lib.hid (Only.refl [] (w.alloc (metBox m)))
  by_cases c0 : r = 0
  · subst c0
    have HR0 := Lib.hid (show levE m gs 0 = 0 by rw [HLV.out, if_pos rfl])
    go_enter Try.func46, Try.ntmps46
    go_wp2_with (first
      | (go_at_call 43; refine (HLE.out _).mono ?_; rintro e wn ⟨rfl, on⟩; have OC := Lib.hid (OC.out.trans on); obtain ⟨-, m0, m1, m2, m3, m4, m5, m6, m7⟩ := met_cells BM.out OC.out; (try have HROW := Lib.hid (HROW.out.only on)))
      | (go_at_call 47; refine (HUN.out _).mono ?_; rintro e wn ⟨rfl, on⟩; have OC := Lib.hid (OC.out.trans on); obtain ⟨-, m0, m1, m2, m3, m4, m5, m6, m7⟩ := met_cells BM.out OC.out; (try have HROW := Lib.hid (HROW.out.only on)))
      | (go_at_call 48; refine (HGR.out _).mono ?_; rintro e wn ⟨g, cap, rfl, hgb, hrow, on⟩; have OC := Lib.hid (OC.out.trans on); obtain ⟨-, m0, m1, m2, m3, m4, m5, m6, m7⟩ := met_cells BM.out OC.out; (try have HROW := Lib.hid (HROW.out.only on)); have HROW := Lib.hid hrow; clear hrow)
      | (go_at_call 45; refine (HBT.out _).mono ?_; rintro e wn ⟨A, capb, rfl, hbr, on⟩; have OC := Lib.hid (OC.out.trans on); obtain ⟨-, m0, m1, m2, m3, m4, m5, m6, m7⟩ := met_cells BM.out OC.out; (try have HROW := Lib.hid (HROW.out.only on)); obtain ⟨D, rfl, -, -⟩ := hbr 0 (by omega); have HBR := Lib.hid (brow_row hbr); clear hbr)
      | (go_at_call 51; refine (HCT.out _ _ _ HBR.out).mono ?_; rintro e wn ⟨rfl, rfl⟩)
      | (go_at_call 49; refine (HMN.out _ _ _ HROW.out).mono ?_; rintro e wn ⟨rfl, rfl⟩)
      | (go_at_call 50; refine (HMX.out _ _ _ HROW.out).mono ?_; rintro e wn ⟨rfl, rfl⟩))
    go_ret
    exact ⟨ret_int (HR0.out.symm), OM.out.trans OC.out⟩
  have HLV0 := Lib.hid (show levE m gs r = if 2 * r = L ∧ gs.length % 2 = 0 ∧ Lib.minOf gs = Lib.maxOf gs then 1 else if bs.contains r = true then 2 else if r % U = 0 then 3 else halv r 1935361 1 U by rw [HLV.out, if_neg c0])
  have HCT := Lib.hid fun (g cap : Nat) (w2 : World) (hrw : Row w2 g bs) => (Try.slices_Contains_int g 0 gs.length cap bs r w2 (by omega) (by omega) (row_cells hrw))
  rw [show bs.take gs.length = bs by rw [← hbl, List.take_length]] at HCT
  obtain ⟨ct, hct⟩ : ∃ ct, bs.contains r = ct := ⟨_, rfl⟩
  rw [hct] at HCT
  have HCTV := Lib.hid hct
  obtain ⟨R, hR⟩ : ∃ R, levE m gs r = R := ⟨_, rfl⟩
  rw [hR] at HLV0 ⊢
  have k2r : IntKind.i64.wrap (2 * r) = 2 * r := IntWalk.i64_in _ (by omega)
  obtain ⟨mn, hmn⟩ : ∃ mn, Lib.minOf gs = mn := ⟨_, rfl⟩
  obtain ⟨mx, hmx⟩ : ∃ mx, Lib.maxOf gs = mx := ⟨_, rfl⟩
  rw [hmn] at HLV0 HMN
  rw [hmx] at HLV0 HMX
  have d0 : (r == 0) = false := by simpa using c0
  have nU : ¬ U = 0 := by omega
  have qU : Int.tmod r U = r % U := Int.tmod_eq_emod_of_nonneg q0
  obtain ⟨z, hz⟩ : ∃ z, r % U = z := ⟨_, rfl⟩
  rw [hz] at qU HLV0
  obtain ⟨z0, hz0⟩ : ∃ z0, (z == 0) = z0 := ⟨_, rfl⟩
  have HZ0 := Lib.hid hz0
  obtain ⟨p1, hp1⟩ : ∃ p1, ((2 * r) == L) = p1 := ⟨_, rfl⟩
  obtain ⟨p2, hp2⟩ : ∃ p2, ((gs.length : Int) % 2 == 0) = p2 := ⟨_, rfl⟩
  obtain ⟨p3, hp3⟩ : ∃ p3, (mn == mx) = p3 := ⟨_, rfl⟩
  have HP := Lib.hid (show (2 * r = L ∧ gs.length % 2 = 0 ∧ mn = mx) ↔ (p1 && (p2 && p3)) = true by
    rw [← hp1, ← hp2, ← hp3]
    simp only [Bool.and_eq_true, beq_iff_eq]
    omega)
  clear hR hmn hmx HLV hct c0 hz
  cases p1
  · cases ct
    · cases z0
      · have HV := Lib.hid (show R = halv r 1935361 1 U by rw [HLV0.out, if_neg (by rw [HP.out]; simp), if_neg (by rw [HCTV.out]; simp), if_neg (by have := HZ0.out; simpa using this)])
        go_enter Try.func46, Try.ntmps46
        go_wp2_with (first
          | (go_at_call 43; refine (HLE.out _).mono ?_; rintro e wn ⟨rfl, on⟩; have OC := Lib.hid (OC.out.trans on); obtain ⟨-, m0, m1, m2, m3, m4, m5, m6, m7⟩ := met_cells BM.out OC.out; (try have HROW := Lib.hid (HROW.out.only on)))
          | (go_at_call 47; refine (HUN.out _).mono ?_; rintro e wn ⟨rfl, on⟩; have OC := Lib.hid (OC.out.trans on); obtain ⟨-, m0, m1, m2, m3, m4, m5, m6, m7⟩ := met_cells BM.out OC.out; (try have HROW := Lib.hid (HROW.out.only on)))
          | (go_at_call 48; refine (HGR.out _).mono ?_; rintro e wn ⟨g, cap, rfl, hgb, hrow, on⟩; have OC := Lib.hid (OC.out.trans on); obtain ⟨-, m0, m1, m2, m3, m4, m5, m6, m7⟩ := met_cells BM.out OC.out; (try have HROW := Lib.hid (HROW.out.only on)); have HROW := Lib.hid hrow; clear hrow)
          | (go_at_call 45; refine (HBT.out _).mono ?_; rintro e wn ⟨A, capb, rfl, hbr, on⟩; have OC := Lib.hid (OC.out.trans on); obtain ⟨-, m0, m1, m2, m3, m4, m5, m6, m7⟩ := met_cells BM.out OC.out; (try have HROW := Lib.hid (HROW.out.only on)); obtain ⟨D, rfl, -, -⟩ := hbr 0 (by omega); have HBR := Lib.hid (brow_row hbr); clear hbr)
          | (go_at_call 51; refine (HCT.out _ _ _ HBR.out).mono ?_; rintro e wn ⟨rfl, rfl⟩)
          | (go_at_call 49; refine (HMN.out _ _ _ HROW.out).mono ?_; rintro e wn ⟨rfl, rfl⟩)
          | (go_at_call 50; refine (HMX.out _ _ _ HROW.out).mono ?_; rintro e wn ⟨rfl, rfl⟩))
        have OX := Lib.hid (OM.out.trans OC.out)
        clear m0 m1 m2 m3 m4 m5 m6 m7 hz0 hp1 k2r d0
        go_loopw [7, 8] (fun kv qv wr => ∃ (k q : Int) (f : Nat), kv = .int .i64 k ∧ qv = .int .i64 q ∧ 1 ≤ k ∧ k + q ≤ 1935362 ∧ 0 ≤ q ∧ q ≤ f ∧ Hid (halv r f k q = R) ∧ Only [] wn wr) (fun _ q _ => (intOf q).toNat)
        case atStart => exact ⟨1, U, 1935361, rfl, rfl, by omega, by omega, by omega, by omega, Lib.hid HV.out.symm, Only.refl _ _⟩
        case round =>
          obtain ⟨k, q, f, rfl, rfl, hk1, hkq, hq0, hqf, HH, hO⟩ := hrel
          have HO := Lib.hid hO
          clear hO
          obtain ⟨h, hh⟩ : ∃ h, q / 2 = h := ⟨_, rfl⟩
          have hh2 : 2 * h ≤ q ∧ q ≤ 2 * h + 1 := by omega
          by_cases e1 : q % 2 = 0
          · by_cases e2 : 7560 ≤ h
            · obtain ⟨f, rfl⟩ : ∃ g, f = g + 1 := ⟨f - 1, by omega⟩
              have HH2 := HH.out
              rw [halv, hh, if_pos ⟨e1, e2⟩] at HH2
              have b1 : (q % 2 == 0) = true := by simpa using e1
              have wh : IntKind.i64.wrap h = h := IntWalk.i64_in _ (by omega)
              have qh : Int.tmod r h = r % h := Int.tmod_eq_emod_of_nonneg q0
              have nh : ¬ h = 0 := by omega
              have hm0 := Int.emod_nonneg r nh
              obtain ⟨y, hy⟩ : ∃ y, r % h = y := ⟨_, rfl⟩
              rw [hy] at qh HH2 hm0
              by_cases ey : y = 0
              · have b3 : (y == 0) = true := by simpa using ey
                rw [if_pos ey] at HH2
                have HR2 := Lib.hid HH2
                have wk : IntKind.i64.wrap (3 + k) = 3 + k := IntWalk.i64_in _ (by omega)
                clear HH2 ey e1 hy hm0
                go_wp2_with fail
                go_ret
                exact ⟨ret_int HR2.out, OX.out.trans HO.out⟩
              · have b3 : (y == 0) = false := by simpa using ey
                rw [if_neg ey] at HH2
                have HR2 := Lib.hid HH2
                have wk : IntKind.i64.wrap (k + 1) = k + 1 := IntWalk.i64_in _ (by omega)
                clear HH2 ey e1 hy hm0
                go_wp2_with fail
                go_roundw
                case rel => exact ⟨k + 1, h, f, rfl, by rw [hh], by omega, by omega, by omega, by omega, HR2, HO.out⟩
                case measure => simp [intOf]; omega
            · have HR2 := Lib.hid (show R = 15 by
                rw [← HH.out]
                cases f with
                | zero => rfl
                | succ f => rw [halv, hh, if_neg (by omega)])
              have b1 : (q % 2 == 0) = true := by simpa using e1
              clear e1
              go_wp2_with fail
              go_ret
              exact ⟨ret_int HR2.out.symm, OX.out.trans HO.out⟩
          · have HR2 := Lib.hid (show R = 15 by
              rw [← HH.out]
              cases f with
              | zero => rfl
              | succ f => rw [halv, if_neg (by omega)])
            have b1 : (q % 2 == 0) = false := by simpa using e1
            clear e1
            go_wp2_with fail
            go_ret
            exact ⟨ret_int HR2.out.symm, OX.out.trans HO.out⟩
      · have HV := Lib.hid (show R = 3 by rw [HLV0.out, if_neg (by rw [HP.out]; simp), if_neg (by rw [HCTV.out]; simp), if_pos (by have := HZ0.out; simpa using this)])
        go_enter Try.func46, Try.ntmps46
        go_wp2_with (first
          | (go_at_call 43; refine (HLE.out _).mono ?_; rintro e wn ⟨rfl, on⟩; have OC := Lib.hid (OC.out.trans on); obtain ⟨-, m0, m1, m2, m3, m4, m5, m6, m7⟩ := met_cells BM.out OC.out; (try have HROW := Lib.hid (HROW.out.only on)))
          | (go_at_call 47; refine (HUN.out _).mono ?_; rintro e wn ⟨rfl, on⟩; have OC := Lib.hid (OC.out.trans on); obtain ⟨-, m0, m1, m2, m3, m4, m5, m6, m7⟩ := met_cells BM.out OC.out; (try have HROW := Lib.hid (HROW.out.only on)))
          | (go_at_call 48; refine (HGR.out _).mono ?_; rintro e wn ⟨g, cap, rfl, hgb, hrow, on⟩; have OC := Lib.hid (OC.out.trans on); obtain ⟨-, m0, m1, m2, m3, m4, m5, m6, m7⟩ := met_cells BM.out OC.out; (try have HROW := Lib.hid (HROW.out.only on)); have HROW := Lib.hid hrow; clear hrow)
          | (go_at_call 45; refine (HBT.out _).mono ?_; rintro e wn ⟨A, capb, rfl, hbr, on⟩; have OC := Lib.hid (OC.out.trans on); obtain ⟨-, m0, m1, m2, m3, m4, m5, m6, m7⟩ := met_cells BM.out OC.out; (try have HROW := Lib.hid (HROW.out.only on)); obtain ⟨D, rfl, -, -⟩ := hbr 0 (by omega); have HBR := Lib.hid (brow_row hbr); clear hbr)
          | (go_at_call 51; refine (HCT.out _ _ _ HBR.out).mono ?_; rintro e wn ⟨rfl, rfl⟩)
          | (go_at_call 49; refine (HMN.out _ _ _ HROW.out).mono ?_; rintro e wn ⟨rfl, rfl⟩)
          | (go_at_call 50; refine (HMX.out _ _ _ HROW.out).mono ?_; rintro e wn ⟨rfl, rfl⟩))
        go_ret
        exact ⟨ret_int (HV.out.symm), OM.out.trans OC.out⟩
    · have HV := Lib.hid (show R = 2 by rw [HLV0.out, if_neg (by rw [HP.out]; simp), if_pos HCTV.out])
      go_enter Try.func46, Try.ntmps46
      go_wp2_with (first
        | (go_at_call 43; refine (HLE.out _).mono ?_; rintro e wn ⟨rfl, on⟩; have OC := Lib.hid (OC.out.trans on); obtain ⟨-, m0, m1, m2, m3, m4, m5, m6, m7⟩ := met_cells BM.out OC.out; (try have HROW := Lib.hid (HROW.out.only on)))
        | (go_at_call 47; refine (HUN.out _).mono ?_; rintro e wn ⟨rfl, on⟩; have OC := Lib.hid (OC.out.trans on); obtain ⟨-, m0, m1, m2, m3, m4, m5, m6, m7⟩ := met_cells BM.out OC.out; (try have HROW := Lib.hid (HROW.out.only on)))
        | (go_at_call 48; refine (HGR.out _).mono ?_; rintro e wn ⟨g, cap, rfl, hgb, hrow, on⟩; have OC := Lib.hid (OC.out.trans on); obtain ⟨-, m0, m1, m2, m3, m4, m5, m6, m7⟩ := met_cells BM.out OC.out; (try have HROW := Lib.hid (HROW.out.only on)); have HROW := Lib.hid hrow; clear hrow)
        | (go_at_call 45; refine (HBT.out _).mono ?_; rintro e wn ⟨A, capb, rfl, hbr, on⟩; have OC := Lib.hid (OC.out.trans on); obtain ⟨-, m0, m1, m2, m3, m4, m5, m6, m7⟩ := met_cells BM.out OC.out; (try have HROW := Lib.hid (HROW.out.only on)); obtain ⟨D, rfl, -, -⟩ := hbr 0 (by omega); have HBR := Lib.hid (brow_row hbr); clear hbr)
        | (go_at_call 51; refine (HCT.out _ _ _ HBR.out).mono ?_; rintro e wn ⟨rfl, rfl⟩)
        | (go_at_call 49; refine (HMN.out _ _ _ HROW.out).mono ?_; rintro e wn ⟨rfl, rfl⟩)
        | (go_at_call 50; refine (HMX.out _ _ _ HROW.out).mono ?_; rintro e wn ⟨rfl, rfl⟩))
      go_ret
      exact ⟨ret_int (HV.out.symm), OM.out.trans OC.out⟩
  · cases p2
    · cases ct
      · cases z0
        · have HV := Lib.hid (show R = halv r 1935361 1 U by rw [HLV0.out, if_neg (by rw [HP.out]; simp), if_neg (by rw [HCTV.out]; simp), if_neg (by have := HZ0.out; simpa using this)])
          go_enter Try.func46, Try.ntmps46
          go_wp2_with (first
            | (go_at_call 43; refine (HLE.out _).mono ?_; rintro e wn ⟨rfl, on⟩; have OC := Lib.hid (OC.out.trans on); obtain ⟨-, m0, m1, m2, m3, m4, m5, m6, m7⟩ := met_cells BM.out OC.out; (try have HROW := Lib.hid (HROW.out.only on)))
            | (go_at_call 47; refine (HUN.out _).mono ?_; rintro e wn ⟨rfl, on⟩; have OC := Lib.hid (OC.out.trans on); obtain ⟨-, m0, m1, m2, m3, m4, m5, m6, m7⟩ := met_cells BM.out OC.out; (try have HROW := Lib.hid (HROW.out.only on)))
            | (go_at_call 48; refine (HGR.out _).mono ?_; rintro e wn ⟨g, cap, rfl, hgb, hrow, on⟩; have OC := Lib.hid (OC.out.trans on); obtain ⟨-, m0, m1, m2, m3, m4, m5, m6, m7⟩ := met_cells BM.out OC.out; (try have HROW := Lib.hid (HROW.out.only on)); have HROW := Lib.hid hrow; clear hrow)
            | (go_at_call 45; refine (HBT.out _).mono ?_; rintro e wn ⟨A, capb, rfl, hbr, on⟩; have OC := Lib.hid (OC.out.trans on); obtain ⟨-, m0, m1, m2, m3, m4, m5, m6, m7⟩ := met_cells BM.out OC.out; (try have HROW := Lib.hid (HROW.out.only on)); obtain ⟨D, rfl, -, -⟩ := hbr 0 (by omega); have HBR := Lib.hid (brow_row hbr); clear hbr)
            | (go_at_call 51; refine (HCT.out _ _ _ HBR.out).mono ?_; rintro e wn ⟨rfl, rfl⟩)
            | (go_at_call 49; refine (HMN.out _ _ _ HROW.out).mono ?_; rintro e wn ⟨rfl, rfl⟩)
            | (go_at_call 50; refine (HMX.out _ _ _ HROW.out).mono ?_; rintro e wn ⟨rfl, rfl⟩))
          have OX := Lib.hid (OM.out.trans OC.out)
          clear m0 m1 m2 m3 m4 m5 m6 m7 hz0 hp1 k2r d0
          go_loopw [7, 8] (fun kv qv wr => ∃ (k q : Int) (f : Nat), kv = .int .i64 k ∧ qv = .int .i64 q ∧ 1 ≤ k ∧ k + q ≤ 1935362 ∧ 0 ≤ q ∧ q ≤ f ∧ Hid (halv r f k q = R) ∧ Only [] wn wr) (fun _ q _ => (intOf q).toNat)
          case atStart => exact ⟨1, U, 1935361, rfl, rfl, by omega, by omega, by omega, by omega, Lib.hid HV.out.symm, Only.refl _ _⟩
          case round =>
            obtain ⟨k, q, f, rfl, rfl, hk1, hkq, hq0, hqf, HH, hO⟩ := hrel
            have HO := Lib.hid hO
            clear hO
            obtain ⟨h, hh⟩ : ∃ h, q / 2 = h := ⟨_, rfl⟩
            have hh2 : 2 * h ≤ q ∧ q ≤ 2 * h + 1 := by omega
            by_cases e1 : q % 2 = 0
            · by_cases e2 : 7560 ≤ h
              · obtain ⟨f, rfl⟩ : ∃ g, f = g + 1 := ⟨f - 1, by omega⟩
                have HH2 := HH.out
                rw [halv, hh, if_pos ⟨e1, e2⟩] at HH2
                have b1 : (q % 2 == 0) = true := by simpa using e1
                have wh : IntKind.i64.wrap h = h := IntWalk.i64_in _ (by omega)
                have qh : Int.tmod r h = r % h := Int.tmod_eq_emod_of_nonneg q0
                have nh : ¬ h = 0 := by omega
                have hm0 := Int.emod_nonneg r nh
                obtain ⟨y, hy⟩ : ∃ y, r % h = y := ⟨_, rfl⟩
                rw [hy] at qh HH2 hm0
                by_cases ey : y = 0
                · have b3 : (y == 0) = true := by simpa using ey
                  rw [if_pos ey] at HH2
                  have HR2 := Lib.hid HH2
                  have wk : IntKind.i64.wrap (3 + k) = 3 + k := IntWalk.i64_in _ (by omega)
                  clear HH2 ey e1 hy hm0
                  go_wp2_with fail
                  go_ret
                  exact ⟨ret_int HR2.out, OX.out.trans HO.out⟩
                · have b3 : (y == 0) = false := by simpa using ey
                  rw [if_neg ey] at HH2
                  have HR2 := Lib.hid HH2
                  have wk : IntKind.i64.wrap (k + 1) = k + 1 := IntWalk.i64_in _ (by omega)
                  clear HH2 ey e1 hy hm0
                  go_wp2_with fail
                  go_roundw
                  case rel => exact ⟨k + 1, h, f, rfl, by rw [hh], by omega, by omega, by omega, by omega, HR2, HO.out⟩
                  case measure => simp [intOf]; omega
              · have HR2 := Lib.hid (show R = 15 by
                  rw [← HH.out]
                  cases f with
                  | zero => rfl
                  | succ f => rw [halv, hh, if_neg (by omega)])
                have b1 : (q % 2 == 0) = true := by simpa using e1
                clear e1
                go_wp2_with fail
                go_ret
                exact ⟨ret_int HR2.out.symm, OX.out.trans HO.out⟩
            · have HR2 := Lib.hid (show R = 15 by
                rw [← HH.out]
                cases f with
                | zero => rfl
                | succ f => rw [halv, if_neg (by omega)])
              have b1 : (q % 2 == 0) = false := by simpa using e1
              clear e1
              go_wp2_with fail
              go_ret
              exact ⟨ret_int HR2.out.symm, OX.out.trans HO.out⟩
        · have HV := Lib.hid (show R = 3 by rw [HLV0.out, if_neg (by rw [HP.out]; simp), if_neg (by rw [HCTV.out]; simp), if_pos (by have := HZ0.out; simpa using this)])
          go_enter Try.func46, Try.ntmps46
          go_wp2_with (first
            | (go_at_call 43; refine (HLE.out _).mono ?_; rintro e wn ⟨rfl, on⟩; have OC := Lib.hid (OC.out.trans on); obtain ⟨-, m0, m1, m2, m3, m4, m5, m6, m7⟩ := met_cells BM.out OC.out; (try have HROW := Lib.hid (HROW.out.only on)))
            | (go_at_call 47; refine (HUN.out _).mono ?_; rintro e wn ⟨rfl, on⟩; have OC := Lib.hid (OC.out.trans on); obtain ⟨-, m0, m1, m2, m3, m4, m5, m6, m7⟩ := met_cells BM.out OC.out; (try have HROW := Lib.hid (HROW.out.only on)))
            | (go_at_call 48; refine (HGR.out _).mono ?_; rintro e wn ⟨g, cap, rfl, hgb, hrow, on⟩; have OC := Lib.hid (OC.out.trans on); obtain ⟨-, m0, m1, m2, m3, m4, m5, m6, m7⟩ := met_cells BM.out OC.out; (try have HROW := Lib.hid (HROW.out.only on)); have HROW := Lib.hid hrow; clear hrow)
            | (go_at_call 45; refine (HBT.out _).mono ?_; rintro e wn ⟨A, capb, rfl, hbr, on⟩; have OC := Lib.hid (OC.out.trans on); obtain ⟨-, m0, m1, m2, m3, m4, m5, m6, m7⟩ := met_cells BM.out OC.out; (try have HROW := Lib.hid (HROW.out.only on)); obtain ⟨D, rfl, -, -⟩ := hbr 0 (by omega); have HBR := Lib.hid (brow_row hbr); clear hbr)
            | (go_at_call 51; refine (HCT.out _ _ _ HBR.out).mono ?_; rintro e wn ⟨rfl, rfl⟩)
            | (go_at_call 49; refine (HMN.out _ _ _ HROW.out).mono ?_; rintro e wn ⟨rfl, rfl⟩)
            | (go_at_call 50; refine (HMX.out _ _ _ HROW.out).mono ?_; rintro e wn ⟨rfl, rfl⟩))
          go_ret
          exact ⟨ret_int (HV.out.symm), OM.out.trans OC.out⟩
      · have HV := Lib.hid (show R = 2 by rw [HLV0.out, if_neg (by rw [HP.out]; simp), if_pos HCTV.out])
        go_enter Try.func46, Try.ntmps46
        go_wp2_with (first
          | (go_at_call 43; refine (HLE.out _).mono ?_; rintro e wn ⟨rfl, on⟩; have OC := Lib.hid (OC.out.trans on); obtain ⟨-, m0, m1, m2, m3, m4, m5, m6, m7⟩ := met_cells BM.out OC.out; (try have HROW := Lib.hid (HROW.out.only on)))
          | (go_at_call 47; refine (HUN.out _).mono ?_; rintro e wn ⟨rfl, on⟩; have OC := Lib.hid (OC.out.trans on); obtain ⟨-, m0, m1, m2, m3, m4, m5, m6, m7⟩ := met_cells BM.out OC.out; (try have HROW := Lib.hid (HROW.out.only on)))
          | (go_at_call 48; refine (HGR.out _).mono ?_; rintro e wn ⟨g, cap, rfl, hgb, hrow, on⟩; have OC := Lib.hid (OC.out.trans on); obtain ⟨-, m0, m1, m2, m3, m4, m5, m6, m7⟩ := met_cells BM.out OC.out; (try have HROW := Lib.hid (HROW.out.only on)); have HROW := Lib.hid hrow; clear hrow)
          | (go_at_call 45; refine (HBT.out _).mono ?_; rintro e wn ⟨A, capb, rfl, hbr, on⟩; have OC := Lib.hid (OC.out.trans on); obtain ⟨-, m0, m1, m2, m3, m4, m5, m6, m7⟩ := met_cells BM.out OC.out; (try have HROW := Lib.hid (HROW.out.only on)); obtain ⟨D, rfl, -, -⟩ := hbr 0 (by omega); have HBR := Lib.hid (brow_row hbr); clear hbr)
          | (go_at_call 51; refine (HCT.out _ _ _ HBR.out).mono ?_; rintro e wn ⟨rfl, rfl⟩)
          | (go_at_call 49; refine (HMN.out _ _ _ HROW.out).mono ?_; rintro e wn ⟨rfl, rfl⟩)
          | (go_at_call 50; refine (HMX.out _ _ _ HROW.out).mono ?_; rintro e wn ⟨rfl, rfl⟩))
        go_ret
        exact ⟨ret_int (HV.out.symm), OM.out.trans OC.out⟩
    · cases p3
      · cases ct
        · cases z0
          · have HV := Lib.hid (show R = halv r 1935361 1 U by rw [HLV0.out, if_neg (by rw [HP.out]; simp), if_neg (by rw [HCTV.out]; simp), if_neg (by have := HZ0.out; simpa using this)])
            go_enter Try.func46, Try.ntmps46
            go_wp2_with (first
              | (go_at_call 43; refine (HLE.out _).mono ?_; rintro e wn ⟨rfl, on⟩; have OC := Lib.hid (OC.out.trans on); obtain ⟨-, m0, m1, m2, m3, m4, m5, m6, m7⟩ := met_cells BM.out OC.out; (try have HROW := Lib.hid (HROW.out.only on)))
              | (go_at_call 47; refine (HUN.out _).mono ?_; rintro e wn ⟨rfl, on⟩; have OC := Lib.hid (OC.out.trans on); obtain ⟨-, m0, m1, m2, m3, m4, m5, m6, m7⟩ := met_cells BM.out OC.out; (try have HROW := Lib.hid (HROW.out.only on)))
              | (go_at_call 48; refine (HGR.out _).mono ?_; rintro e wn ⟨g, cap, rfl, hgb, hrow, on⟩; have OC := Lib.hid (OC.out.trans on); obtain ⟨-, m0, m1, m2, m3, m4, m5, m6, m7⟩ := met_cells BM.out OC.out; (try have HROW := Lib.hid (HROW.out.only on)); have HROW := Lib.hid hrow; clear hrow)
              | (go_at_call 45; refine (HBT.out _).mono ?_; rintro e wn ⟨A, capb, rfl, hbr, on⟩; have OC := Lib.hid (OC.out.trans on); obtain ⟨-, m0, m1, m2, m3, m4, m5, m6, m7⟩ := met_cells BM.out OC.out; (try have HROW := Lib.hid (HROW.out.only on)); obtain ⟨D, rfl, -, -⟩ := hbr 0 (by omega); have HBR := Lib.hid (brow_row hbr); clear hbr)
              | (go_at_call 51; refine (HCT.out _ _ _ HBR.out).mono ?_; rintro e wn ⟨rfl, rfl⟩)
              | (go_at_call 49; refine (HMN.out _ _ _ HROW.out).mono ?_; rintro e wn ⟨rfl, rfl⟩)
              | (go_at_call 50; refine (HMX.out _ _ _ HROW.out).mono ?_; rintro e wn ⟨rfl, rfl⟩))
            have OX := Lib.hid (OM.out.trans OC.out)
            clear m0 m1 m2 m3 m4 m5 m6 m7 hz0 hp1 k2r d0
            go_loopw [7, 8] (fun kv qv wr => ∃ (k q : Int) (f : Nat), kv = .int .i64 k ∧ qv = .int .i64 q ∧ 1 ≤ k ∧ k + q ≤ 1935362 ∧ 0 ≤ q ∧ q ≤ f ∧ Hid (halv r f k q = R) ∧ Only [] wn wr) (fun _ q _ => (intOf q).toNat)
            case atStart => exact ⟨1, U, 1935361, rfl, rfl, by omega, by omega, by omega, by omega, Lib.hid HV.out.symm, Only.refl _ _⟩
            case round =>
              obtain ⟨k, q, f, rfl, rfl, hk1, hkq, hq0, hqf, HH, hO⟩ := hrel
              have HO := Lib.hid hO
              clear hO
              obtain ⟨h, hh⟩ : ∃ h, q / 2 = h := ⟨_, rfl⟩
              have hh2 : 2 * h ≤ q ∧ q ≤ 2 * h + 1 := by omega
              by_cases e1 : q % 2 = 0
              · by_cases e2 : 7560 ≤ h
                · obtain ⟨f, rfl⟩ : ∃ g, f = g + 1 := ⟨f - 1, by omega⟩
                  have HH2 := HH.out
                  rw [halv, hh, if_pos ⟨e1, e2⟩] at HH2
                  have b1 : (q % 2 == 0) = true := by simpa using e1
                  have wh : IntKind.i64.wrap h = h := IntWalk.i64_in _ (by omega)
                  have qh : Int.tmod r h = r % h := Int.tmod_eq_emod_of_nonneg q0
                  have nh : ¬ h = 0 := by omega
                  have hm0 := Int.emod_nonneg r nh
                  obtain ⟨y, hy⟩ : ∃ y, r % h = y := ⟨_, rfl⟩
                  rw [hy] at qh HH2 hm0
                  by_cases ey : y = 0
                  · have b3 : (y == 0) = true := by simpa using ey
                    rw [if_pos ey] at HH2
                    have HR2 := Lib.hid HH2
                    have wk : IntKind.i64.wrap (3 + k) = 3 + k := IntWalk.i64_in _ (by omega)
                    clear HH2 ey e1 hy hm0
                    go_wp2_with fail
                    go_ret
                    exact ⟨ret_int HR2.out, OX.out.trans HO.out⟩
                  · have b3 : (y == 0) = false := by simpa using ey
                    rw [if_neg ey] at HH2
                    have HR2 := Lib.hid HH2
                    have wk : IntKind.i64.wrap (k + 1) = k + 1 := IntWalk.i64_in _ (by omega)
                    clear HH2 ey e1 hy hm0
                    go_wp2_with fail
                    go_roundw
                    case rel => exact ⟨k + 1, h, f, rfl, by rw [hh], by omega, by omega, by omega, by omega, HR2, HO.out⟩
                    case measure => simp [intOf]; omega
                · have HR2 := Lib.hid (show R = 15 by
                    rw [← HH.out]
                    cases f with
                    | zero => rfl
                    | succ f => rw [halv, hh, if_neg (by omega)])
                  have b1 : (q % 2 == 0) = true := by simpa using e1
                  clear e1
                  go_wp2_with fail
                  go_ret
                  exact ⟨ret_int HR2.out.symm, OX.out.trans HO.out⟩
              · have HR2 := Lib.hid (show R = 15 by
                  rw [← HH.out]
                  cases f with
                  | zero => rfl
                  | succ f => rw [halv, if_neg (by omega)])
                have b1 : (q % 2 == 0) = false := by simpa using e1
                clear e1
                go_wp2_with fail
                go_ret
                exact ⟨ret_int HR2.out.symm, OX.out.trans HO.out⟩
          · have HV := Lib.hid (show R = 3 by rw [HLV0.out, if_neg (by rw [HP.out]; simp), if_neg (by rw [HCTV.out]; simp), if_pos (by have := HZ0.out; simpa using this)])
            go_enter Try.func46, Try.ntmps46
            go_wp2_with (first
              | (go_at_call 43; refine (HLE.out _).mono ?_; rintro e wn ⟨rfl, on⟩; have OC := Lib.hid (OC.out.trans on); obtain ⟨-, m0, m1, m2, m3, m4, m5, m6, m7⟩ := met_cells BM.out OC.out; (try have HROW := Lib.hid (HROW.out.only on)))
              | (go_at_call 47; refine (HUN.out _).mono ?_; rintro e wn ⟨rfl, on⟩; have OC := Lib.hid (OC.out.trans on); obtain ⟨-, m0, m1, m2, m3, m4, m5, m6, m7⟩ := met_cells BM.out OC.out; (try have HROW := Lib.hid (HROW.out.only on)))
              | (go_at_call 48; refine (HGR.out _).mono ?_; rintro e wn ⟨g, cap, rfl, hgb, hrow, on⟩; have OC := Lib.hid (OC.out.trans on); obtain ⟨-, m0, m1, m2, m3, m4, m5, m6, m7⟩ := met_cells BM.out OC.out; (try have HROW := Lib.hid (HROW.out.only on)); have HROW := Lib.hid hrow; clear hrow)
              | (go_at_call 45; refine (HBT.out _).mono ?_; rintro e wn ⟨A, capb, rfl, hbr, on⟩; have OC := Lib.hid (OC.out.trans on); obtain ⟨-, m0, m1, m2, m3, m4, m5, m6, m7⟩ := met_cells BM.out OC.out; (try have HROW := Lib.hid (HROW.out.only on)); obtain ⟨D, rfl, -, -⟩ := hbr 0 (by omega); have HBR := Lib.hid (brow_row hbr); clear hbr)
              | (go_at_call 51; refine (HCT.out _ _ _ HBR.out).mono ?_; rintro e wn ⟨rfl, rfl⟩)
              | (go_at_call 49; refine (HMN.out _ _ _ HROW.out).mono ?_; rintro e wn ⟨rfl, rfl⟩)
              | (go_at_call 50; refine (HMX.out _ _ _ HROW.out).mono ?_; rintro e wn ⟨rfl, rfl⟩))
            go_ret
            exact ⟨ret_int (HV.out.symm), OM.out.trans OC.out⟩
        · have HV := Lib.hid (show R = 2 by rw [HLV0.out, if_neg (by rw [HP.out]; simp), if_pos HCTV.out])
          go_enter Try.func46, Try.ntmps46
          go_wp2_with (first
            | (go_at_call 43; refine (HLE.out _).mono ?_; rintro e wn ⟨rfl, on⟩; have OC := Lib.hid (OC.out.trans on); obtain ⟨-, m0, m1, m2, m3, m4, m5, m6, m7⟩ := met_cells BM.out OC.out; (try have HROW := Lib.hid (HROW.out.only on)))
            | (go_at_call 47; refine (HUN.out _).mono ?_; rintro e wn ⟨rfl, on⟩; have OC := Lib.hid (OC.out.trans on); obtain ⟨-, m0, m1, m2, m3, m4, m5, m6, m7⟩ := met_cells BM.out OC.out; (try have HROW := Lib.hid (HROW.out.only on)))
            | (go_at_call 48; refine (HGR.out _).mono ?_; rintro e wn ⟨g, cap, rfl, hgb, hrow, on⟩; have OC := Lib.hid (OC.out.trans on); obtain ⟨-, m0, m1, m2, m3, m4, m5, m6, m7⟩ := met_cells BM.out OC.out; (try have HROW := Lib.hid (HROW.out.only on)); have HROW := Lib.hid hrow; clear hrow)
            | (go_at_call 45; refine (HBT.out _).mono ?_; rintro e wn ⟨A, capb, rfl, hbr, on⟩; have OC := Lib.hid (OC.out.trans on); obtain ⟨-, m0, m1, m2, m3, m4, m5, m6, m7⟩ := met_cells BM.out OC.out; (try have HROW := Lib.hid (HROW.out.only on)); obtain ⟨D, rfl, -, -⟩ := hbr 0 (by omega); have HBR := Lib.hid (brow_row hbr); clear hbr)
            | (go_at_call 51; refine (HCT.out _ _ _ HBR.out).mono ?_; rintro e wn ⟨rfl, rfl⟩)
            | (go_at_call 49; refine (HMN.out _ _ _ HROW.out).mono ?_; rintro e wn ⟨rfl, rfl⟩)
            | (go_at_call 50; refine (HMX.out _ _ _ HROW.out).mono ?_; rintro e wn ⟨rfl, rfl⟩))
          go_ret
          exact ⟨ret_int (HV.out.symm), OM.out.trans OC.out⟩
      · have HV := Lib.hid (show R = 1 by rw [HLV0.out, if_pos (by rw [HP.out]; simp)])
        go_enter Try.func46, Try.ntmps46
        go_wp2_with (first
          | (go_at_call 43; refine (HLE.out _).mono ?_; rintro e wn ⟨rfl, on⟩; have OC := Lib.hid (OC.out.trans on); obtain ⟨-, m0, m1, m2, m3, m4, m5, m6, m7⟩ := met_cells BM.out OC.out; (try have HROW := Lib.hid (HROW.out.only on)))
          | (go_at_call 47; refine (HUN.out _).mono ?_; rintro e wn ⟨rfl, on⟩; have OC := Lib.hid (OC.out.trans on); obtain ⟨-, m0, m1, m2, m3, m4, m5, m6, m7⟩ := met_cells BM.out OC.out; (try have HROW := Lib.hid (HROW.out.only on)))
          | (go_at_call 48; refine (HGR.out _).mono ?_; rintro e wn ⟨g, cap, rfl, hgb, hrow, on⟩; have OC := Lib.hid (OC.out.trans on); obtain ⟨-, m0, m1, m2, m3, m4, m5, m6, m7⟩ := met_cells BM.out OC.out; (try have HROW := Lib.hid (HROW.out.only on)); have HROW := Lib.hid hrow; clear hrow)
          | (go_at_call 45; refine (HBT.out _).mono ?_; rintro e wn ⟨A, capb, rfl, hbr, on⟩; have OC := Lib.hid (OC.out.trans on); obtain ⟨-, m0, m1, m2, m3, m4, m5, m6, m7⟩ := met_cells BM.out OC.out; (try have HROW := Lib.hid (HROW.out.only on)); obtain ⟨D, rfl, -, -⟩ := hbr 0 (by omega); have HBR := Lib.hid (brow_row hbr); clear hbr)
          | (go_at_call 51; refine (HCT.out _ _ _ HBR.out).mono ?_; rintro e wn ⟨rfl, rfl⟩)
          | (go_at_call 49; refine (HMN.out _ _ _ HROW.out).mono ?_; rintro e wn ⟨rfl, rfl⟩)
          | (go_at_call 50; refine (HMX.out _ _ _ HROW.out).mono ?_; rintro e wn ⟨rfl, rfl⟩))
        go_ret
        exact ⟨ret_int (HV.out.symm), OM.out.trans OC.out⟩

set_option maxRecDepth 20000 in
set_option maxHeartbeats 4000000 in
theorem Level_any (m : Met) (hc : m.chk = 0) (gs : List Int) (hG : GrpC m gs) (hl : gs.length ≤ 64) (h0 : 0 < gs.length) (hg : ∀ x ∈ gs, 0 ≤ x ∧ x ≤ 64) (t : Int) (h1 : 0 ≤ t) (h2 : t ≤ 4398046511104) (w : World) :
    Calls Try.prog 41 #[metV m, .int .i64 t] w fun e w' => e = .returned (.tuple #[.int .i64 (levE m gs (t % m.len)), .int .i64 0]) ∧ Only [] w w' := by
  have HL := Lib.hid (level_any m hc gs hG hl h0 hg t h1 h2)
  have HT := Lib.hid (tick_ok m hc t h1 h2)
  have BM := Lib.hid (Blk.new w 36 (metL m))
  have OM := Lib.hid ((Only.refl [] w).alloc (metBox m))
  clear hc hG hl h0 hg
  go_enter Try.func41, Try.ntmps41
  go_wp2_with (first
    | (go_at_call 44; refine (HT.out _).mono ?_; rintro e w1 ⟨rfl, o1⟩; obtain ⟨-, m0, m1, m2, m3, m4, m5, m6, m7⟩ := met_cells BM.out o1)
    | (go_at_call 46; refine (HL.out _).mono ?_; rintro e w2 ⟨rfl, o2⟩))
  go_ret2
  exact ⟨rfl, (OM.out.trans o1).trans o2⟩

set_option maxRecDepth 20000 in
set_option maxHeartbeats 4000000 in
theorem blevel_any (m : Met) (hc : m.chk = 0) (gs : List Int) (hG : GrpC m gs) (hl : gs.length ≤ 64) (h0 : 0 < gs.length) (hg : ∀ x ∈ gs, 0 ≤ x ∧ x ≤ 64) (t : Int) (h1 : 0 ≤ t) (h2 : t ≤ 4398046511104) (w : World) :
    Calls Try.prog 34 #[metV m, .int .i64 t] w fun e w' => e = .returned (.int .i64 (levE m gs (t % m.len))) ∧ Only [] w w' := by
  have hk := Met.ok_of hc
  have hr := un_rng hk.u1 hk.u2
  have hlr := len_rng hk.c1 hk.c2 hr.1 hr.2
  have hL1 : 30240 ≤ m.len ∧ m.len ≤ 123863040 := hlr
  have q0 : 0 ≤ t % m.len := Int.emod_nonneg _ (by omega)
  have q1 : t % m.len < m.len := Int.emod_lt_of_pos _ (by omega)
  have HL := Lib.hid (Level_any m hc gs hG hl h0 hg (t % m.len) q0 (by omega))
  rw [Int.emod_emod_of_dvd _ (Int.dvd_refl _)] at HL
  have HLE := Lib.hid (Length_any m hc)
  have BM := Lib.hid (Blk.new w 36 (metL m))
  have OM := Lib.hid ((Only.refl [] w).alloc (metBox m))
  obtain ⟨L, hLL⟩ : ∃ L, m.len = L := ⟨_, rfl⟩
  rw [hLL] at q0 q1 HL HLE hL1 ⊢
  have qL : Int.tmod t L = t % L := Int.tmod_eq_emod_of_nonneg h1
  have nL : ¬ L = 0 := by omega
  obtain ⟨r, hrr⟩ : ∃ r, t % L = r := ⟨_, rfl⟩
  rw [hrr] at q0 q1 qL HL ⊢
  clear hk hr hlr hc hG hl h0 hg hLL hrr
  go_enter Try.func34, Try.ntmps34
  go_wp2_with (go_at_call 38; refine (HLE.out _).mono ?_; rintro e w1 ⟨rfl, o1⟩; obtain ⟨b1, -⟩ := met_cells BM.out o1; obtain ⟨n0, n1, n2, n3, n4, n5, n6, n7⟩ := met_near b1)
  refine wp_near [] (by kernel_rfl) (by kernel_rfl) ?_
  repeat (go_big_quiet_step ((go_at_call 41; with_reducible exact near_call _ (HL.out _))))
  refine wpQuiet_nil ?_
  intro i
  obtain ⟨wq, pq⟩ := i
  dsimp only
  clear n0 n1 n2 n3 n4 n5 n6 n7
  go_wp2
  go_ret
  exact ⟨rfl, (OM.out.trans o1).trans pq⟩
end Go.Proofs.Ytglkpoiajebleaa
