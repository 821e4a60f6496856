/- DERIVED. The statements of chapter 26: part. -/
import Derived.Test.YtglkpoiajebleaaMak
namespace Go.Proofs.Ytglkpoiajebleaa
open Go.RowKit

/-- What part gives: some neighbouring notes with flags, or none. -/
def Parted (l : List Nt) (e : Ending) : Prop :=
  (∃ F K : Nat, F < K ∧ K < l.length ∧ (∀ i (hi : i < l.length), F ≤ i → i ≤ K → l[i].fl ≠ 0) ∧ e = .returned (.tuple #[grpV F K, .bool true])) ∨ e = .returned (.tuple #[grpV 0 0, .bool false])

set_option maxRecDepth 20000 in
set_option maxHeartbeats 8000000 in
theorem part_any {w : World} {A : Option Addr} {l : List Nt} (c : Nat) (h : NotesAt w A l) (hl : l.length ≤ 128) (hfl : ∀ x ∈ l, 0 ≤ x.fl ∧ x.fl ≤ 6) (wh : Int) (h1 : 0 ≤ wh ∧ wh ≤ 255) :
    Calls Try.prog 15 #[.slice A l.length c, .int .u8 wh] w fun e w' => Parted l e ∧ Only [] w w' := by
  have H := Lib.hid h
  have HFL := Lib.hid hfl
  have O0 := Lib.hid ((Only.refl [] w).alloc (.cells #[.int .i64 0, .int .i64 0] 40))
  have BG := Lib.hid (Blk.new w 40 [.int .i64 0, .int .i64 0])
  clear h hfl
  go_enter Try.func15, Try.ntmps15
  go_wp2_with fail
  obtain ⟨W0, hW0⟩ : ∃ W0, w.alloc (.cells #[.int .i64 0, .int .i64 0] 40) = W0 := ⟨_, rfl⟩
  rw [hW0] at O0 BG ⊢
  clear hW0
  go_loopw [6] (fun n wr => ∃ j : Nat, j ≤ l.length ∧ n = .int .i64 j ∧ Only [] W0 wr) (fun n _ => l.length - (intOf n).toNat)
  case atStart => exact ⟨0, by omega, rfl, Only.refl _ _⟩
  case round =>
    obtain ⟨j, hj, rfl, hO⟩ := hrel
    have HO := Lib.hid hO
    clear hO
    obtain ⟨V, rfl⟩ : ∃ V, V = wr := ⟨_, rfl⟩
    by_cases hlt : j < l.length
    · have j1 : (j : Int) < (l.length : Int) := by omega
      have hne : ¬ (l.length : Int) = 0 := by omega
      have wj : IntKind.i64.wrap (wh + (j : Int)) = wh + (j : Int) := IntWalk.i64_in _ (by omega)
      obtain ⟨i, hi⟩ : ∃ i : Nat, Int.tmod (wh + (j : Int)) (l.length : Int) = (i : Int) := ⟨((wh + (j : Int)) % (l.length : Int)).toNat, by
        rw [Int.tmod_eq_emod_of_nonneg (by omega)]
        have := Int.emod_nonneg (wh + (j : Int)) hne
        omega⟩
      have hil : i < l.length := by
        have e := Int.tmod_eq_emod_of_nonneg (b := (l.length : Int)) (show 0 ≤ wh + (j : Int) by omega)
        have := Int.emod_lt_of_pos (wh + (j : Int)) (show (0 : Int) < (l.length : Int) by omega)
        omega
      have HJ := Lib.hid j1
      have HIL := Lib.hid hil
      clear hlt hil
      go_wp2_with fail
      clear hi wj hne j1
      have q16 : 0 ≤ wh / 16 ∧ wh / 16 ≤ 15 := by omega
      obtain ⟨q, hq⟩ : ∃ q, wh / 16 = q := ⟨_, rfl⟩
      rw [hq] at q16
      go_loopw [8] (fun k wr => ∃ k' : Nat, i ≤ k' ∧ k' ≤ l.length ∧ k = .int .i64 k' ∧ Hid (∀ r (hr : r < l.length), i ≤ r → r < k' → l[r].fl ≠ 0) ∧ Only [] V wr) (fun k _ => l.length - (intOf k).toNat)
      case atStart => exact ⟨i, by omega, by have := HIL.out; omega, rfl, Lib.hid (fun r _ h1 h2 => absurd h2 (by omega)), Only.refl _ _⟩
      case round =>
        obtain ⟨k, hk1, hk2, rfl, HA, hO2⟩ := hrel
        have HO2 := Lib.hid hO2
        have k0 : (0 : Int) ≤ (k : Int) := by omega
        by_cases hkl : k < l.length
        · obtain ⟨b, off, rfl, hb, hcs⟩ := (H.out.only ((O0.out.trans HO.out).trans hO2)) k hkl
          have m2 := hcs 2 (by omega)
          simp only [Nt.vs, List.getElem?_cons_zero, List.getElem?_cons_succ, Nat.add_zero] at m2
          have hfx := HFL.out l[k] (List.getElem_mem _)
          obtain ⟨x, hx⟩ : ∃ x, l[k] = x := ⟨_, rfl⟩
          rw [hx] at m2 hfx
          have HX := Lib.hid hx
          have k1 : (k : Int) < (l.length : Int) := by omega
          have wk : IntKind.i64.wrap ((k : Int) - (i : Int)) = (k : Int) - (i : Int) := IntWalk.i64_in _ (by omega)
          have wq : IntKind.i64.wrap (1 + q) = 1 + q := IntWalk.i64_in _ (by omega)
          clear hcs hx hb
          have bg := BG.out.only (HO.out.trans HO2.out) (by simp)
          have g0 := bg.cell 0
          have g1 := bg.cell 1
          have z0 := bg.frozen 0
          have z1 := bg.frozen 1
          simp only [List.getElem?_cons_zero, List.getElem?_cons_succ] at g0 g1
          have HBG := Lib.hid bg
          clear bg
          by_cases hf : 0 < x.fl
          · by_cases hw : (k : Int) - (i : Int) < 1 + q
            · have HF := Lib.hid (show x.fl ≠ 0 by omega)
              go_wp2_with fail
              go_roundw
              case rel =>
                refine ⟨k + 1, by omega, by omega, by go_num, Lib.hid (fun r hr h1 h2 => ?_), HO2.out⟩
                by_cases e : r = k
                · subst e; rw [HX.out]; exact HF.out
                · exact HA.out r hr h1 (by omega)
              case measure => simp [intOf]; omega
            · by_cases h2 : (k : Int) - (i : Int) < 2
              · go_wp2_with fail
                go_roundw
                case rel => exact ⟨j + 1, by have := HJ.out; omega, by go_num, HO.out.trans HO2.out⟩
                case measure => have := HJ.out; simp [intOf]; omega
              · have wk1 : IntKind.i64.wrap ((k : Int) - 1) = (k : Int) - 1 := IntWalk.i64_in _ (by omega)
                go_wp2_with fail
                have B9 := (HBG.out.set_ 0 (.int .i64 (i : Int))).set_ 1 (.int .i64 ((k : Int) - 1))
                have y0 := B9.cell 0
                have y1 := B9.cell 1
                simp only [List.set_cons_zero, List.set_cons_succ, List.getElem?_cons_zero, List.getElem?_cons_succ] at y0 y1
                refine bodyPost_ret (v := .tuple #[grpV (i : Int) ((k : Int) - 1), .bool true]) (by simp [results, Try.results15, go_sem, y0, y1]) rfl ⟨.inl ⟨i, k - 1, by omega, by omega, fun r hr h1 h2 => HA.out r hr h1 (by omega), by rw [show ((k - 1 : Nat) : Int) = (k : Int) - 1 by omega]⟩, ?_⟩
                exact (((O0.out.trans HO.out).trans HO2.out).setCell (p := ⟨w.heap.size, 0, none⟩) (.inr (by simp)) _).setCell (p := ⟨w.heap.size, 1, none⟩) (.inr (by simp)) _
              
          · by_cases h2 : (k : Int) - (i : Int) < 2
            · go_wp2_with fail
              go_roundw
              case rel => exact ⟨j + 1, by have := HJ.out; omega, by go_num, HO.out.trans HO2.out⟩
              case measure => have := HJ.out; simp [intOf]; omega
            · have wk1 : IntKind.i64.wrap ((k : Int) - 1) = (k : Int) - 1 := IntWalk.i64_in _ (by omega)
              go_wp2_with fail
              have B9 := (HBG.out.set_ 0 (.int .i64 (i : Int))).set_ 1 (.int .i64 ((k : Int) - 1))
              have y0 := B9.cell 0
              have y1 := B9.cell 1
              simp only [List.set_cons_zero, List.set_cons_succ, List.getElem?_cons_zero, List.getElem?_cons_succ] at y0 y1
              refine bodyPost_ret (v := .tuple #[grpV (i : Int) ((k : Int) - 1), .bool true]) (by simp [results, Try.results15, go_sem, y0, y1]) rfl ⟨.inl ⟨i, k - 1, by omega, by omega, fun r hr h1 h2 => HA.out r hr h1 (by omega), by rw [show ((k - 1 : Nat) : Int) = (k : Int) - 1 by omega]⟩, ?_⟩
              exact (((O0.out.trans HO.out).trans HO2.out).setCell (p := ⟨w.heap.size, 0, none⟩) (.inr (by simp)) _).setCell (p := ⟨w.heap.size, 1, none⟩) (.inr (by simp)) _
            
        · have k1 : ¬ (k : Int) < (l.length : Int) := by omega
          clear hO2
          have bg := BG.out.only (HO.out.trans HO2.out) (by simp)
          have g0 := bg.cell 0
          have g1 := bg.cell 1
          have z0 := bg.frozen 0
          have z1 := bg.frozen 1
          simp only [List.getElem?_cons_zero, List.getElem?_cons_succ] at g0 g1
          have HBG := Lib.hid bg
          clear bg
          by_cases h2 : (k : Int) - (i : Int) < 2
          · go_wp2_with fail
            go_roundw
            case rel => exact ⟨j + 1, by have := HJ.out; omega, by go_num, HO.out.trans HO2.out⟩
            case measure => have := HJ.out; simp [intOf]; omega
          · have wk1 : IntKind.i64.wrap ((k : Int) - 1) = (k : Int) - 1 := IntWalk.i64_in _ (by omega)
            go_wp2_with fail
            have B9 := (HBG.out.set_ 0 (.int .i64 (i : Int))).set_ 1 (.int .i64 ((k : Int) - 1))
            have y0 := B9.cell 0
            have y1 := B9.cell 1
            simp only [List.set_cons_zero, List.set_cons_succ, List.getElem?_cons_zero, List.getElem?_cons_succ] at y0 y1
            refine bodyPost_ret (v := .tuple #[grpV (i : Int) ((k : Int) - 1), .bool true]) (by simp [results, Try.results15, go_sem, y0, y1]) rfl ⟨.inl ⟨i, k - 1, by omega, by omega, fun r hr h1 h2 => HA.out r hr h1 (by omega), by rw [show ((k - 1 : Nat) : Int) = (k : Int) - 1 by omega]⟩, ?_⟩
            exact (((O0.out.trans HO.out).trans HO2.out).setCell (p := ⟨w.heap.size, 0, none⟩) (.inr (by simp)) _).setCell (p := ⟨w.heap.size, 1, none⟩) (.inr (by simp)) _
    · have bg := BG.out.only HO.out (by simp)
      have y0 := bg.cell 0
      have y1 := bg.cell 1
      have z0 := bg.frozen 0
      have z1 := bg.frozen 1
      simp only [List.getElem?_cons_zero, List.getElem?_cons_succ] at y0 y1
      have B9 := Lib.hid ((bg.set_ 0 (.int .i64 0)).set_ 1 (.int .i64 0))
      clear bg
      go_wp2_with fail
      have y0 := B9.out.cell 0
      have y1 := B9.out.cell 1
      simp only [List.set_cons_zero, List.set_cons_succ, List.getElem?_cons_zero, List.getElem?_cons_succ] at y0 y1
      refine bodyPost_ret (v := .tuple #[grpV 0 0, .bool false]) (by simp [results, Try.results15, go_sem, y0, y1]) rfl ⟨.inr rfl, ?_⟩
      exact ((O0.out.trans HO.out).setCell (p := ⟨w.heap.size, 0, none⟩) (.inr (by simp)) _).setCell (p := ⟨w.heap.size, 1, none⟩) (.inr (by simp)) _
end Go.Proofs.Ytglkpoiajebleaa
