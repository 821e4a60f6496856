/- DERIVED. VerticalEqual: the walk. -/
import Derived.Test.YticpophdoiljfaaSpe
namespace Go.Proofs.Yticpophdoiljfaa
open Go.RowKit
attribute [local go_sem ↓] Go.wp_at_zero Go.wp_at_succ

theorem partsE_zero {ms ps : List Int} {t b : Int} (h : partsE ms ps t b = 0) : Proper ms t b ∧ ps.length = ms.length ∧ Sorted ps := by
  unfold partsE at h
  split at h
  · rename_i h1
    split at h
    · rename_i h2
      split at h
      · rename_i h3
        refine ⟨?_, h2, ?_⟩
        · rcases properB_cases ms t b with ⟨hp, _⟩ | ⟨_, hp⟩
          · exact hp
          · rw [hp] at h1; cases h1
        · by_cases hs : Sorted ps
          · exact hs
          · rw [sortedB_false hs] at h3; cases h3
      · omega
    · omega
  · omega

/-- The cells of two boxes. -/
def TwoAt (W : World) (B : Nat) (A A' : Option Addr) (n n' c c' : Nat) (t t' b b' : Int) : Prop :=
  W.cell? ⟨B, 0, none⟩ = some (.slice A n c) ∧ W.cell? ⟨B, 1, none⟩ = some (.int .i64 t) ∧ W.cell? ⟨B, 2, none⟩ = some (.int .i64 b) ∧
  W.cell? ⟨B + 1, 0, none⟩ = some (.slice A' n' c') ∧ W.cell? ⟨B + 1, 1, none⟩ = some (.int .i64 t') ∧ W.cell? ⟨B + 1, 2, none⟩ = some (.int .i64 b')
theorem TwoAt.of {W0 W : World} {B : Nat} {A A' : Option Addr} {n n' c c' : Nat} {t t' b b' : Int} (h : Blk W0 B 24 [.slice A n c, .int .i64 t, .int .i64 b] ∧ Blk W0 (B + 1) 24 [.slice A' n' c', .int .i64 t', .int .i64 b']) (ho : Only [] W0 W) :
    TwoAt W B A A' n n' c c' t t' b b' := by
  have h1 := h.1.only ho (by simp)
  have h2 := h.2.only ho (by simp)
  exact ⟨h1.cell 0, h1.cell 1, h1.cell 2, h2.cell 0, h2.cell 1, h2.cell 2⟩

set_option maxRecDepth 20000 in
set_option maxHeartbeats 8000000 in
theorem equal_any {w : World} {A A' P : Option Addr} {ms ms' ps : List Int} (c c' cp : Nat) (t t' b b' : Int) (hI : IntsAt w A ms) (hI' : IntsAt w A' ms') (hP : IntsAt w P ps) (hl : ms.length ≤ 9223372036854775807) (hl' : ms'.length ≤ 9223372036854775807) (hlp : ps.length ≤ 9223372036854775807) :
    Calls Try.prog 9 #[sysV A ms.length c t b, sysV A' ms'.length c' t' b', .slice P ps.length cp] w fun e w' => e = .returned (.bool true) ∧ Only [] w w' := by
  have X := Lib.hid (((Only.refl [] w).alloc (sysBox A ms.length c t b)).alloc (sysBox A' ms'.length c' t' b'))
  have BB := Lib.hid (two_boxes w A A' ms.length ms'.length c c' t t' b b')
  have HI := Lib.hid (hI.only X.out (by simp))
  have HI' := Lib.hid (hI'.only X.out (by simp))
  have HP := Lib.hid (hP.only X.out (by simp))
  clear hI hI' hP
  by_cases h8 : 8 < ms.length
  · skip
    go_enter Try.func9, Try.ntmps9
    go_wp2_with (first
      | (have _t := a0; go_at_call 12; refine (known_any _).mono ?_; rintro e w2 ⟨rfl, o2⟩)
      | (go_at_call 12; refine (known_any _).mono ?_; rintro e w1 ⟨rfl, o1⟩; obtain ⟨a0, a1, a2, a3, a4, a5⟩ := TwoAt.of BB.out o1))
    go_ret
    exact ⟨rfl, (X.out.trans o1).trans o2⟩
  · by_cases h8' : 8 < ms'.length
    · skip
      go_enter Try.func9, Try.ntmps9
      go_wp2_with (first
        | (have _t := a0; go_at_call 12; refine (known_any _).mono ?_; rintro e w2 ⟨rfl, o2⟩)
        | (go_at_call 12; refine (known_any _).mono ?_; rintro e w1 ⟨rfl, o1⟩; obtain ⟨a0, a1, a2, a3, a4, a5⟩ := TwoAt.of BB.out o1))
      go_ret
      exact ⟨rfl, (X.out.trans o1).trans o2⟩
    · by_cases h8p : 8 < ps.length
      · skip
        go_enter Try.func9, Try.ntmps9
        go_wp2_with (first
          | (have _t := a0; go_at_call 12; refine (known_any _).mono ?_; rintro e w2 ⟨rfl, o2⟩)
          | (go_at_call 12; refine (known_any _).mono ?_; rintro e w1 ⟨rfl, o1⟩; obtain ⟨a0, a1, a2, a3, a4, a5⟩ := TwoAt.of BB.out o1))
        go_ret
        exact ⟨rfl, (X.out.trans o1).trans o2⟩
      · obtain ⟨ev, hev⟩ : ∃ ev, partsE ms ps t b = ev := ⟨_, rfl⟩
        have PE := Lib.hid hev
        have EE : (ev == ev) = true := by simp
        by_cases h0 : ev = 0
        · subst h0
          have HZ := Lib.hid (partsE_zero hev)
          clear hev
          cases hsb : sameB ms ms' t t' b b'
          all_goals
            have SB := Lib.hid hsb
            clear hsb
            go_enter Try.func9, Try.ntmps9
            go_wp2_with (first
              | (go_at_call 12; refine (known_any _).mono ?_; rintro e w1 ⟨rfl, o1⟩; obtain ⟨a0, a1, a2, a3, a4, a5⟩ := TwoAt.of BB.out o1)
              | (go_at_call 29; refine (spread_ok c cp t b 5 (HI.out.only o1 (by simp)) (by omega) (HP.out.only o1 (by simp)) HZ.out.1 HZ.out.2.1 HZ.out.2.2 (by omega) (by omega)).mono ?_; rintro e w2 ⟨g, cg, rfl, hg, hgw, hgc, o2⟩))
            have O3 := Lib.hid ((o1.trans o2).alloc (.cells #[.slice (some ⟨g, 0, none⟩) ms.length cg, .int .i64 t, .int .i64 (b - 5)] 24))
            generalize w2.alloc (.cells #[.slice (some ⟨g, 0, none⟩) ms.length cg, .int .i64 t, .int .i64 (b - 5)] 24) = W3 at *
            have K := Lib.hid (fun W (h : Only [] W3 W) => TwoAt.of BB.out (O3.out.trans h))
            have IA := Lib.hid (fun W (h : Only [] W3 W) => HI.out.only (O3.out.trans h) (by simp))
            have IB := Lib.hid (fun W (h : Only [] W3 W) => HI'.out.only (O3.out.trans h) (by simp))
            have IP := Lib.hid (fun W (h : Only [] W3 W) => HP.out.only (O3.out.trans h) (by simp))
            obtain ⟨k0, k1, k2, k3, k4, k5⟩ := K.out W3 (Only.refl _ _)
            clear a0 a1 a2 a3 a4 a5
            go_region_held3 (fun W => W.cell? ⟨w.heap.size, 0, none⟩ = some (.slice A ms.length c) ∧ W.cell? ⟨w.heap.size, 1, none⟩ = some (.int .i64 t) ∧ W.cell? ⟨w.heap.size, 2, none⟩ = some (.int .i64 b) ∧ W.cell? ⟨w.heap.size + 1, 0, none⟩ = some (.slice A' ms'.length c') ∧ W.cell? ⟨w.heap.size + 1, 1, none⟩ = some (.int .i64 t') ∧ W.cell? ⟨w.heap.size + 1, 2, none⟩ = some (.int .i64 b')) (first | exact ⟨k0, k1, k2, k3, k4, k5⟩ | exact K.out _ p9 | exact K.out _ p8 | exact K.out _ p7 | exact K.out _ p6 | exact K.out _ p5 | exact K.out _ p4) (first
              | (have _t := p8; go_at_call 28; refine (mparts_any c cp t b (IA.out _ p8) (by omega) (IP.out _ p8) (by omega)).mono ?_; rintro e w9 ⟨rfl, o9⟩; rw [PE.out]; have p9 := p8.trans o9)
              | (have _t := p7; go_at_call 31; refine (Equal_any c c t t b b (IA.out _ p7) (IA.out _ p7) (by omega)).mono ?_; rintro e w8 ⟨rfl, o8⟩; rw [show sameB ms ms t t b b = true by simp [sameB]]; have p8 := p7.trans o8)
              | (have _t := p6; go_at_call 22; refine (same_any c c' t t' b b' (IA.out _ p6) (IB.out _ p6) (by omega)).mono ?_; rintro e w7 ⟨rfl, o7⟩; rw [SB.out]; have p7 := p6.trans o7)
              | (have _t := p5; go_at_call 31; refine (Equal_any c' c t' t b' b (IB.out _ p5) (IA.out _ p5) (by omega)).mono ?_; rintro e w6 ⟨rfl, o6⟩; rw [sameB_comm, SB.out]; have p6 := p5.trans o6)
              | (have _t := p4; go_at_call 22; refine (same_any c c' t t' b b' (IA.out _ p4) (IB.out _ p4) (by omega)).mono ?_; rintro e w5 ⟨rfl, o5⟩; rw [SB.out]; have p5 := p4.trans o5)
              | (go_at_call 31; refine (Equal_any c c' t t' b b' (IA.out _ (Only.refl _ _).drew) (IB.out _ (Only.refl _ _).drew) (by omega)).mono ?_; rintro e w4 ⟨rfl, o4⟩; rw [SB.out]; have p4 := ((Only.refl [] W3).drew).trans o4))
            go_wp2
            go_ret
            exact ⟨rfl, ((X.out.trans O3.out).trans p9)⟩
        · have HE := Lib.hid h0
          clear hev h0
          cases hsb : sameB ms ms' t t' b b'
          all_goals
            have SB := Lib.hid hsb
            clear hsb
            go_enter Try.func9, Try.ntmps9
            go_wp2_with (first
              | (go_at_call 12; refine (known_any _).mono ?_; rintro e w1 ⟨rfl, o1⟩; obtain ⟨a0, a1, a2, a3, a4, a5⟩ := TwoAt.of BB.out o1)
              | (go_at_call 29; refine (spread_bad c cp t b 5 (HI.out.only o1 (by simp)) (by omega) (HP.out.only o1 (by simp)) (by omega) (by rw [PE.out]; exact HE.out)).mono ?_; rintro e w2 ⟨rfl, o2⟩; rw [PE.out]))
            have O3 := Lib.hid ((o1.trans o2).alloc (.cells #[.slice none 0 0, .int .i64 0, .int .i64 0] 24))
            generalize w2.alloc (.cells #[.slice none 0 0, .int .i64 0, .int .i64 0] 24) = W3 at *
            have K := Lib.hid (fun W (h : Only [] W3 W) => TwoAt.of BB.out (O3.out.trans h))
            have IA := Lib.hid (fun W (h : Only [] W3 W) => HI.out.only (O3.out.trans h) (by simp))
            have IB := Lib.hid (fun W (h : Only [] W3 W) => HI'.out.only (O3.out.trans h) (by simp))
            have IP := Lib.hid (fun W (h : Only [] W3 W) => HP.out.only (O3.out.trans h) (by simp))
            obtain ⟨k0, k1, k2, k3, k4, k5⟩ := K.out W3 (Only.refl _ _)
            clear a0 a1 a2 a3 a4 a5
            go_region_held3 (fun W => W.cell? ⟨w.heap.size, 0, none⟩ = some (.slice A ms.length c) ∧ W.cell? ⟨w.heap.size, 1, none⟩ = some (.int .i64 t) ∧ W.cell? ⟨w.heap.size, 2, none⟩ = some (.int .i64 b) ∧ W.cell? ⟨w.heap.size + 1, 0, none⟩ = some (.slice A' ms'.length c') ∧ W.cell? ⟨w.heap.size + 1, 1, none⟩ = some (.int .i64 t') ∧ W.cell? ⟨w.heap.size + 1, 2, none⟩ = some (.int .i64 b')) (first | exact ⟨k0, k1, k2, k3, k4, k5⟩ | exact K.out _ p9 | exact K.out _ p8 | exact K.out _ p7 | exact K.out _ p6 | exact K.out _ p5 | exact K.out _ p4) (first
              | (have _t := p8; go_at_call 28; refine (mparts_any c cp t b (IA.out _ p8) (by omega) (IP.out _ p8) (by omega)).mono ?_; rintro e w9 ⟨rfl, o9⟩; rw [PE.out]; have p9 := p8.trans o9)
              | (have _t := p7; go_at_call 31; refine (Equal_any c c t t b b (IA.out _ p7) (IA.out _ p7) (by omega)).mono ?_; rintro e w8 ⟨rfl, o8⟩; rw [show sameB ms ms t t b b = true by simp [sameB]]; have p8 := p7.trans o8)
              | (have _t := p6; go_at_call 22; refine (same_any c c' t t' b b' (IA.out _ p6) (IB.out _ p6) (by omega)).mono ?_; rintro e w7 ⟨rfl, o7⟩; rw [SB.out]; have p7 := p6.trans o7)
              | (have _t := p5; go_at_call 31; refine (Equal_any c' c t' t b' b (IB.out _ p5) (IA.out _ p5) (by omega)).mono ?_; rintro e w6 ⟨rfl, o6⟩; rw [sameB_comm, SB.out]; have p6 := p5.trans o6)
              | (have _t := p4; go_at_call 22; refine (same_any c c' t t' b b' (IA.out _ p4) (IB.out _ p4) (by omega)).mono ?_; rintro e w5 ⟨rfl, o5⟩; rw [SB.out]; have p5 := p4.trans o5)
              | (go_at_call 31; refine (Equal_any c c' t t' b b' (IA.out _ (Only.refl _ _).drew) (IB.out _ (Only.refl _ _).drew) (by omega)).mono ?_; rintro e w4 ⟨rfl, o4⟩; rw [SB.out]; have p4 := ((Only.refl [] W3).drew).trans o4))
            go_wp2
            go_ret
            exact ⟨rfl, ((X.out.trans O3.out).trans p9)⟩
end Go.Proofs.Yticpophdoiljfaa
