/- DERIVED. BeamErrors: the walk. -/
import Derived.Test.YtglkpoiajebleaaMcm
import Derived.Test.YtglkpoiajebleaaRdp
import Derived.Test.YtglkpoiajebleaaPlu
import Derived.Test.YtglkpoiajebleaaKnw
namespace Go.Proofs.Ytglkpoiajebleaa
open Go.RowKit

theorem Groups_all {w : World} {A : Option Addr} {l : List Nt} (m : Met) (off : Int) (c : Nat) (h : NotesAt w A l) (hl : l.length ≤ 128) :
    Calls Try.prog 11 #[metV m, .int .i64 off, .slice A l.length c] w fun e w' => ∃ v, e = .returned (.tuple #[v, .int .i64 (allE m off l)]) ∧ Only [] w w' := by
  by_cases hb : allE m off l = 0
  · obtain ⟨hG, hgl, hg⟩ := grpC_of (allE_zero hb).1
    refine (Groups_any m _ hG hgl hg off c h hl hb).mono ?_
    rintro e w' ⟨v, rfl, -, o⟩
    exact ⟨v, by rw [hb], o⟩
  · refine (Groups_bad m off c h hl hb).mono ?_
    rintro e w' ⟨rfl, o⟩
    exact ⟨_, rfl, o⟩

theorem Segments_all {w : World} {A : Option Addr} {l : List Nt} (m : Met) (off : Int) (c : Nat) (h : NotesAt w A l) (hl : l.length ≤ 128) (hcap : l.length ≤ c) (f k s : Int) (hs : s = if allE m off l ≠ 0 then allE m off l else gE l f k) :
    Calls Try.prog 18 #[metV m, .int .i64 off, .slice A l.length c, grpV f k] w fun e w' => ∃ (D : Option Addr) (n cD : Nat), e = .returned (.tuple #[.slice D n cD, .int .i64 s]) ∧ (s ≠ 0 → n = 0) ∧ Only [] w w' := by
  subst hs
  by_cases hb : allE m off l ≠ 0 ∨ gE l f k ≠ 0
  · refine (Segments_bad m off c h hl hcap f k hb).mono ?_
    rintro e w' ⟨rfl, o⟩
    exact ⟨none, 0, 0, rfl, fun _ => rfl, o⟩
  · have h1 : allE m off l = 0 := by omega
    have h2 : gE l f k = 0 := by omega
    obtain ⟨F, K, rfl, rfl, hFK, hKl, -⟩ := gE_zero h2
    have hck := (allE_zero h1).1
    obtain ⟨hG, hgl, hg⟩ := grpC_of hck
    refine (Segments_any m _ hG hgl (beatsL_pos hck) hg off c h hl hcap h1 F K hFK hKl h2).mono ?_
    rintro e w' ⟨v, rfl, hown, o⟩
    obtain ⟨D, cD, rfl, -⟩ := own_segs hown
    exact ⟨D, _, cD, by rw [if_neg (by omega), h2], fun hn => absurd (by rw [if_neg (by omega), h2]) hn, o⟩

theorem Place_all {w : World} {A : Option Addr} {l : List Nt} (c : Nat) (h : NotesAt w A l) (hl : l.length ≤ 128) (hcap : l.length ≤ c) (f k p : Int) (hp : p = plE l f k) :
    Calls Try.prog 16 #[.slice A l.length c, grpV f k, .bool true] w fun e w' => ∃ a b, e = .returned (.tuple #[.agg #[.int .i64 a, .int .i64 b], .int .i64 p]) ∧ (p ≠ 0 → a = 0 ∧ b = 0) ∧ Only [] w w' := by
  subst hp
  by_cases hb : plE l f k = 0
  · rw [hb]
    unfold plE at hb
    by_cases hn : ntE none l = 0
    · rw [if_neg (by omega)] at hb
      obtain ⟨F, K, rfl, rfl, hFK, hKl, -⟩ := gE_zero hb
      refine (Place_true c h hl hcap hn F K hFK hKl hb).mono ?_
      rintro e w' ⟨rfl, o⟩
      exact ⟨_, _, rfl, fun hz => absurd rfl hz, o⟩
    · rw [if_pos hn] at hb
      exact absurd hb hn
  · refine (Place_bad c h hl hcap f k true hb).mono ?_
    rintro e w' ⟨rfl, o⟩
    exact ⟨0, 0, rfl, fun _ => ⟨rfl, rfl⟩, o⟩

set_option maxRecDepth 20000 in
set_option maxHeartbeats 16000000 in
theorem errors_long {w : World} (A : Option Addr) (n c : Nat) (m : Met) (hn : 20 < n) (x y z : Int) :
    Calls Try.prog 7 #[metV m, .slice A n c, .agg #[.int .i64 x, .int .i64 y, .int .i64 z]] w fun e w' => e = .returned (.bool true) ∧ Only [] w w' := by
  have n1 : (20 : Int) < (n : Int) := by omega
  go_enter Try.func7, Try.ntmps7
  have O0 := Lib.hid (((Only.refl [] w).alloc (metBox m)).alloc (.cells #[.int .i64 x, .int .i64 y, .int .i64 z] 63))
  go_wp2_with (go_at_call 9; refine (known_any _).mono ?_; rintro e w1 ⟨rfl, o1⟩; (first | (have O2 := Lib.hid (O1.out.trans o1)) | (have O1 := Lib.hid (O0.out.trans o1))))
  go_ret
  exact ⟨rfl, O2.out⟩

set_option maxRecDepth 20000 in
set_option maxHeartbeats 16000000 in
theorem errors_short {w : World} {A : Option Addr} {l : List Nt} (m : Met) (c : Nat) (h : NotesAt w A l) (hl : l.length ≤ 20) (hcap : l.length ≤ c) (x y z : Int) :
    Calls Try.prog 7 #[metV m, .slice A l.length c, .agg #[.int .i64 x, .int .i64 y, .int .i64 z]] w fun e w' => e = .returned (.bool true) ∧ Only [] w w' := by
  have n1 : ¬ (20 : Int) < (l.length : Int) := by omega
  obtain ⟨s, hs⟩ : ∃ s, s = if allE m x l ≠ 0 then allE m x l else gE l y z := ⟨_, rfl⟩
  obtain ⟨p, hp⟩ : ∃ p, p = plE l y z := ⟨_, rfl⟩
  have HGR := Lib.hid fun w2 (o : Only [] w w2) => Groups_all m x c (h.only o) (by omega)
  have HSE := Lib.hid fun w2 (o : Only [] w w2) => Segments_all m x c (h.only o) (by omega) hcap y z s hs
  have HPL := Lib.hid fun w2 (o : Only [] w w2) => Place_all c (h.only o) (by omega) hcap y z p hp
  have HCM := Lib.hid fun w2 (o : Only [] w w2) => mcheckMetre_any m x c (h.only o) (by omega)
  have HCG := Lib.hid fun w2 (o : Only [] w w2) => mcheckGroup_any c (h.only o) (by omega) y z
  have HCK := Lib.hid fun w2 (o : Only [] w w2) => mcheck_any c (h.only o) (by omega)
  have hEN := Lib.hid fun hb => (allE_zero (m := m) (off := x) (l := l) hb).2.2.1
  unfold plE at hp
  obtain ⟨E, hE⟩ : ∃ E, allE m x l = E := ⟨_, rfl⟩
  obtain ⟨G, hG⟩ : ∃ G, gE l y z = G := ⟨_, rfl⟩
  obtain ⟨N, hN⟩ : ∃ N, ntE none l = N := ⟨_, rfl⟩
  rw [hE] at HGR HCM hEN hs
  rw [hG] at HCG hs hp
  rw [hN] at HCK hEN hp
  have n20 := Lib.hid hl
  have O0 := Lib.hid (((Only.refl [] w).alloc (metBox m)).alloc (.cells #[.int .i64 x, .int .i64 y, .int .i64 z] 63))
  have BM := Lib.hid ((Blk.new w 36 (metL m)).alloc (.cells #[.int .i64 x, .int .i64 y, .int .i64 z] 63))
  have BX := Lib.hid (Blk.new (w.alloc (metBox m)) 63 [.int .i64 x, .int .i64 y, .int .i64 z])
  rw [show (w.alloc (metBox m)).heap.size = w.heap.size + 1 by simp] at BX
  clear hE hG hN h hl hcap
  simp only [grpV] at HSE HPL HCG
  have HS := Lib.hid hs
  have HP := Lib.hid hp
  have HCS : (E = 0 ∧ N = 0 ∧ G = 0) ∨ (E = 0 ∧ N = 0 ∧ G ≠ 0) ∨ (E ≠ 0 ∧ N ≠ 0) ∨ (E ≠ 0 ∧ N = 0 ∧ G = 0) ∨ (E ≠ 0 ∧ N = 0 ∧ G ≠ 0) := by
    by_cases e1 : E = 0
    · have := hEN.out e1; omega
    · omega
  clear hs hp hEN
  rcases HCS with ⟨rfl, rfl, rfl⟩ | ⟨rfl, rfl, hg⟩ | ⟨he, hn⟩ | ⟨he, rfl, rfl⟩ | ⟨he, rfl, hg⟩
  · obtain rfl : s = 0 := by rw [HS.out]; simp
    obtain rfl : p = 0 := by rw [HP.out]; simp
    clear HS HP
    go_enter Try.func7, Try.ntmps7
    go_wp2_with (go_at_call 9; refine (known_any _).mono ?_; rintro e w1 ⟨rfl, o1⟩; have O1 := Lib.hid (O0.out.trans o1); have BM1 := Lib.hid (BM.out.only o1 (by simp)); have BX1 := Lib.hid (BX.out.only o1 (by simp)); have x0 := BX1.out.cell 0; have x1 := BX1.out.cell 1; have x2 := BX1.out.cell 2; have x3 := fun X => (BX1.out.alloc X).cell 0; have x4 := fun X => (BX1.out.alloc X).cell 1; have x5 := fun X => (BX1.out.alloc X).cell 2; simp only [List.getElem?_cons_zero, List.getElem?_cons_succ] at x0 x1 x2 x3 x4 x5)
    clear o1
    go_region
    have BG := Lib.hid (Blk.new w1 40 [.int .i64 y, .int .i64 z]).drew
    have BM2 := Lib.hid (BM1.out.alloc (.cells #[.int .i64 y, .int .i64 z] 40)).drew
    have O2 := Lib.hid (O1.out.alloc (.cells #[.int .i64 y, .int .i64 z] 40)).drew
    clear x0 x1 x2 x3 x4 x5 BX1 BX BM BM1 O1 O0
    obtain ⟨W, hW⟩ : ∃ W, (w1.alloc (.cells #[.int .i64 y, .int .i64 z] 40)).drew = W := ⟨_, rfl⟩
    rw [hW] at BG BM2 O2 ⊢
    clear hW
    have KEEP := Lib.hid fun (X : World) (hX : Only [] W X) => let g := BG.out.only hX (by simp); let c := (met_cells BM2.out hX).2; show X.cell? ⟨w.heap.size, 0, none⟩ = some (.int .i64 m.c) ∧ X.cell? ⟨w.heap.size, 1, none⟩ = some (.int .i64 m.u) ∧ X.cell? ⟨w.heap.size, 2, none⟩ = some (.int .i64 m.g0) ∧ X.cell? ⟨w.heap.size, 3, none⟩ = some (.int .i64 m.g1) ∧ X.cell? ⟨w.heap.size, 4, none⟩ = some (.int .i64 m.g2) ∧ X.cell? ⟨w.heap.size, 5, none⟩ = some (.int .i64 m.g3) ∧ X.cell? ⟨w.heap.size, 6, none⟩ = some (.int .i64 m.g4) ∧ X.cell? ⟨w.heap.size, 7, none⟩ = some (.int .i64 m.g5) ∧ X.cell? ⟨w1.heap.size, 0, none⟩ = some (.int .i64 y) ∧ X.cell? ⟨w1.heap.size, 1, none⟩ = some (.int .i64 z) from ⟨c.1, c.2.1, c.2.2.1, c.2.2.2.1, c.2.2.2.2.1, c.2.2.2.2.2.1, c.2.2.2.2.2.2.1, c.2.2.2.2.2.2.2, g.cell 0, g.cell 1⟩
    obtain ⟨c0, c1, c2, c3, c4, c5, c6, c7, g0, g1⟩ := KEEP.out W (Only.refl [] W)
    go_wp2_with (first
      | (go_at_call 11; refine (HGR.out _ O2.out).mono ?_; rintro e w3 ⟨v, rfl, o3⟩; have P3 := Lib.hid o3; clear c0 c1 c2 c3 c4 c5 c6 c7 g0 g1; obtain ⟨c0, c1, c2, c3, c4, c5, c6, c7, g0, g1⟩ := KEEP.out _ P3.out; have O3 := Lib.hid (O2.out.trans o3); clear o3)
      | (go_at_call 18; refine (HSE.out _ O3.out).mono ?_; rintro e w4 ⟨D, n, cD, rfl, hD, o4⟩; have P4 := Lib.hid (P3.out.trans o4); clear c0 c1 c2 c3 c4 c5 c6 c7 g0 g1; obtain ⟨c0, c1, c2, c3, c4, c5, c6, c7, g0, g1⟩ := KEEP.out _ P4.out; have O4 := Lib.hid (O3.out.trans o4); clear o4; have HD := Lib.hid hD; clear hD)
      | (go_at_call 16; refine (HPL.out _ O4.out).mono ?_; rintro e w5 ⟨a, b, rfl, hab, o5⟩; have P5 := Lib.hid ((P4.out.trans o5).alloc (.cells #[.int .i64 a, .int .i64 b] 54)); clear c0 c1 c2 c3 c4 c5 c6 c7 g0 g1; obtain ⟨c0, c1, c2, c3, c4, c5, c6, c7, g0, g1⟩ := KEEP.out _ P5.out; have O5 := Lib.hid ((O4.out.trans o5).alloc (.cells #[.int .i64 a, .int .i64 b] 54)); have BY := Lib.hid (Blk.new w5 54 [.int .i64 a, .int .i64 b]); have Q5 := Lib.hid (Only.refl [] (w5.alloc (.cells #[.int .i64 a, .int .i64 b] 54))); have y0 := BY.out.cell 0; have y1 := BY.out.cell 1; simp only [List.getElem?_cons_zero, List.getElem?_cons_succ] at y0 y1; clear o5; have HAB := Lib.hid hab; clear hab)
      | (go_at_call 20; refine (HCM.out _ O5.out).mono ?_; rintro e w6 ⟨rfl, o6⟩; have P6 := Lib.hid (P5.out.trans o6); have Q6 := Lib.hid (Q5.out.trans o6); clear c0 c1 c2 c3 c4 c5 c6 c7 g0 g1; obtain ⟨c0, c1, c2, c3, c4, c5, c6, c7, g0, g1⟩ := KEEP.out _ P6.out; clear y0 y1; have y0 := (BY.out.only Q6.out (by simp)).cell 0; have y1 := (BY.out.only Q6.out (by simp)).cell 1; simp only [List.getElem?_cons_zero, List.getElem?_cons_succ] at y0 y1; have O6 := Lib.hid (O5.out.trans o6); clear o6)
      | (go_at_call 22; refine (HCK.out _ (by first | exact O7.out | exact O6.out)).mono ?_; rintro e w8 ⟨rfl, o8⟩; have P8 := Lib.hid (by first | exact P7.out.trans o8 | exact P6.out.trans o8); have Q8 := Lib.hid (by first | exact Q7.out.trans o8 | exact Q6.out.trans o8); clear c0 c1 c2 c3 c4 c5 c6 c7 g0 g1; obtain ⟨c0, c1, c2, c3, c4, c5, c6, c7, g0, g1⟩ := KEEP.out _ P8.out; clear y0 y1; have y0 := (BY.out.only Q8.out (by simp)).cell 0; have y1 := (BY.out.only Q8.out (by simp)).cell 1; simp only [List.getElem?_cons_zero, List.getElem?_cons_succ] at y0 y1; have O8 := Lib.hid (by first | exact O7.out.trans o8 | exact O6.out.trans o8); clear o8)
      | (have _h := O8; go_at_call 21; refine (HCG.out _ O8.out).mono ?_; rintro e w9 ⟨rfl, o9⟩; have P9 := Lib.hid (P8.out.trans o9); have Q9 := Lib.hid (Q8.out.trans o9); clear c0 c1 c2 c3 c4 c5 c6 c7 g0 g1; obtain ⟨c0, c1, c2, c3, c4, c5, c6, c7, g0, g1⟩ := KEEP.out _ P9.out; clear y0 y1; have y0 := (BY.out.only Q9.out (by simp)).cell 0; have y1 := (BY.out.only Q9.out (by simp)).cell 1; simp only [List.getElem?_cons_zero, List.getElem?_cons_succ] at y0 y1; have O9 := Lib.hid (O8.out.trans o9); clear o9)
      | (go_at_call 21; refine (HCG.out _ O6.out).mono ?_; rintro e w7 ⟨rfl, o7⟩; have P7 := Lib.hid (P6.out.trans o7); have Q7 := Lib.hid (Q6.out.trans o7); clear c0 c1 c2 c3 c4 c5 c6 c7 g0 g1; obtain ⟨c0, c1, c2, c3, c4, c5, c6, c7, g0, g1⟩ := KEEP.out _ P7.out; clear y0 y1; have y0 := (BY.out.only Q7.out (by simp)).cell 0; have y1 := (BY.out.only Q7.out (by simp)).cell 1; simp only [List.getElem?_cons_zero, List.getElem?_cons_succ] at y0 y1; have O7 := Lib.hid (O6.out.trans o7); clear o7))
    go_ret
    exact ⟨rfl, O9.out⟩
  · have zG1 : (G == 0) = false := by simpa using hg
    have zG2 : (G != 0) = true := by simpa using hg
    have zG3 : (G != G) = false := by simp
    have zG4 : (G == G) = true := by simp
    obtain rfl : G = s := by rw [HS.out]; simp
    obtain rfl : G = p := by rw [HP.out]; simp
    clear HS HP
    go_enter Try.func7, Try.ntmps7
    go_wp2_with (go_at_call 9; refine (known_any _).mono ?_; rintro e w1 ⟨rfl, o1⟩; have O1 := Lib.hid (O0.out.trans o1); have BM1 := Lib.hid (BM.out.only o1 (by simp)); have BX1 := Lib.hid (BX.out.only o1 (by simp)); have x0 := BX1.out.cell 0; have x1 := BX1.out.cell 1; have x2 := BX1.out.cell 2; have x3 := fun X => (BX1.out.alloc X).cell 0; have x4 := fun X => (BX1.out.alloc X).cell 1; have x5 := fun X => (BX1.out.alloc X).cell 2; simp only [List.getElem?_cons_zero, List.getElem?_cons_succ] at x0 x1 x2 x3 x4 x5)
    clear o1
    go_region
    have BG := Lib.hid (Blk.new w1 40 [.int .i64 y, .int .i64 z]).drew
    have BM2 := Lib.hid (BM1.out.alloc (.cells #[.int .i64 y, .int .i64 z] 40)).drew
    have O2 := Lib.hid (O1.out.alloc (.cells #[.int .i64 y, .int .i64 z] 40)).drew
    clear x0 x1 x2 x3 x4 x5 BX1 BX BM BM1 O1 O0
    obtain ⟨W, hW⟩ : ∃ W, (w1.alloc (.cells #[.int .i64 y, .int .i64 z] 40)).drew = W := ⟨_, rfl⟩
    rw [hW] at BG BM2 O2 ⊢
    clear hW
    have KEEP := Lib.hid fun (X : World) (hX : Only [] W X) => let g := BG.out.only hX (by simp); let c := (met_cells BM2.out hX).2; show X.cell? ⟨w.heap.size, 0, none⟩ = some (.int .i64 m.c) ∧ X.cell? ⟨w.heap.size, 1, none⟩ = some (.int .i64 m.u) ∧ X.cell? ⟨w.heap.size, 2, none⟩ = some (.int .i64 m.g0) ∧ X.cell? ⟨w.heap.size, 3, none⟩ = some (.int .i64 m.g1) ∧ X.cell? ⟨w.heap.size, 4, none⟩ = some (.int .i64 m.g2) ∧ X.cell? ⟨w.heap.size, 5, none⟩ = some (.int .i64 m.g3) ∧ X.cell? ⟨w.heap.size, 6, none⟩ = some (.int .i64 m.g4) ∧ X.cell? ⟨w.heap.size, 7, none⟩ = some (.int .i64 m.g5) ∧ X.cell? ⟨w1.heap.size, 0, none⟩ = some (.int .i64 y) ∧ X.cell? ⟨w1.heap.size, 1, none⟩ = some (.int .i64 z) from ⟨c.1, c.2.1, c.2.2.1, c.2.2.2.1, c.2.2.2.2.1, c.2.2.2.2.2.1, c.2.2.2.2.2.2.1, c.2.2.2.2.2.2.2, g.cell 0, g.cell 1⟩
    obtain ⟨c0, c1, c2, c3, c4, c5, c6, c7, g0, g1⟩ := KEEP.out W (Only.refl [] W)
    go_wp2_with (first
      | (go_at_call 11; refine (HGR.out _ O2.out).mono ?_; rintro e w3 ⟨v, rfl, o3⟩; have P3 := Lib.hid o3; clear c0 c1 c2 c3 c4 c5 c6 c7 g0 g1; obtain ⟨c0, c1, c2, c3, c4, c5, c6, c7, g0, g1⟩ := KEEP.out _ P3.out; have O3 := Lib.hid (O2.out.trans o3); clear o3)
      | (go_at_call 18; refine (HSE.out _ O3.out).mono ?_; rintro e w4 ⟨D, n, cD, rfl, hD, o4⟩; have P4 := Lib.hid (P3.out.trans o4); clear c0 c1 c2 c3 c4 c5 c6 c7 g0 g1; obtain ⟨c0, c1, c2, c3, c4, c5, c6, c7, g0, g1⟩ := KEEP.out _ P4.out; have O4 := Lib.hid (O3.out.trans o4); clear o4; obtain rfl : n = 0 := hD hg; clear hD)
      | (go_at_call 16; refine (HPL.out _ O4.out).mono ?_; rintro e w5 ⟨a, b, rfl, hab, o5⟩; obtain ⟨rfl, rfl⟩ := hab hg; have P5 := Lib.hid ((P4.out.trans o5).alloc (.cells #[.int .i64 0, .int .i64 0] 54)); clear c0 c1 c2 c3 c4 c5 c6 c7 g0 g1; obtain ⟨c0, c1, c2, c3, c4, c5, c6, c7, g0, g1⟩ := KEEP.out _ P5.out; have O5 := Lib.hid ((O4.out.trans o5).alloc (.cells #[.int .i64 0, .int .i64 0] 54)); have BY := Lib.hid (Blk.new w5 54 [.int .i64 0, .int .i64 0]); have Q5 := Lib.hid (Only.refl [] (w5.alloc (.cells #[.int .i64 0, .int .i64 0] 54))); have y0 := BY.out.cell 0; have y1 := BY.out.cell 1; simp only [List.getElem?_cons_zero, List.getElem?_cons_succ] at y0 y1; clear o5)
      | (go_at_call 20; refine (HCM.out _ O5.out).mono ?_; rintro e w6 ⟨rfl, o6⟩; have P6 := Lib.hid (P5.out.trans o6); have Q6 := Lib.hid (Q5.out.trans o6); clear c0 c1 c2 c3 c4 c5 c6 c7 g0 g1; obtain ⟨c0, c1, c2, c3, c4, c5, c6, c7, g0, g1⟩ := KEEP.out _ P6.out; clear y0 y1; have y0 := (BY.out.only Q6.out (by simp)).cell 0; have y1 := (BY.out.only Q6.out (by simp)).cell 1; simp only [List.getElem?_cons_zero, List.getElem?_cons_succ] at y0 y1; have O6 := Lib.hid (O5.out.trans o6); clear o6)
      | (go_at_call 22; refine (HCK.out _ (by first | exact O7.out | exact O6.out)).mono ?_; rintro e w8 ⟨rfl, o8⟩; have P8 := Lib.hid (by first | exact P7.out.trans o8 | exact P6.out.trans o8); have Q8 := Lib.hid (by first | exact Q7.out.trans o8 | exact Q6.out.trans o8); clear c0 c1 c2 c3 c4 c5 c6 c7 g0 g1; obtain ⟨c0, c1, c2, c3, c4, c5, c6, c7, g0, g1⟩ := KEEP.out _ P8.out; clear y0 y1; have y0 := (BY.out.only Q8.out (by simp)).cell 0; have y1 := (BY.out.only Q8.out (by simp)).cell 1; simp only [List.getElem?_cons_zero, List.getElem?_cons_succ] at y0 y1; have O8 := Lib.hid (by first | exact O7.out.trans o8 | exact O6.out.trans o8); clear o8)
      | (have _h := O8; go_at_call 21; refine (HCG.out _ O8.out).mono ?_; rintro e w9 ⟨rfl, o9⟩; have P9 := Lib.hid (P8.out.trans o9); have Q9 := Lib.hid (Q8.out.trans o9); clear c0 c1 c2 c3 c4 c5 c6 c7 g0 g1; obtain ⟨c0, c1, c2, c3, c4, c5, c6, c7, g0, g1⟩ := KEEP.out _ P9.out; clear y0 y1; have y0 := (BY.out.only Q9.out (by simp)).cell 0; have y1 := (BY.out.only Q9.out (by simp)).cell 1; simp only [List.getElem?_cons_zero, List.getElem?_cons_succ] at y0 y1; have O9 := Lib.hid (O8.out.trans o9); clear o9)
      | (go_at_call 21; refine (HCG.out _ O6.out).mono ?_; rintro e w7 ⟨rfl, o7⟩; have P7 := Lib.hid (P6.out.trans o7); have Q7 := Lib.hid (Q6.out.trans o7); clear c0 c1 c2 c3 c4 c5 c6 c7 g0 g1; obtain ⟨c0, c1, c2, c3, c4, c5, c6, c7, g0, g1⟩ := KEEP.out _ P7.out; clear y0 y1; have y0 := (BY.out.only Q7.out (by simp)).cell 0; have y1 := (BY.out.only Q7.out (by simp)).cell 1; simp only [List.getElem?_cons_zero, List.getElem?_cons_succ] at y0 y1; have O7 := Lib.hid (O6.out.trans o7); clear o7))
    go_ret
    exact ⟨rfl, O9.out⟩
  · have zE1 : (E == 0) = false := by simpa using he
    have zE2 : (E != 0) = true := by simpa using he
    have zE3 : (E != E) = false := by simp
    have zE4 : (E == E) = true := by simp
    have zN1 : (N == 0) = false := by simpa using hn
    have zN2 : (N != 0) = true := by simpa using hn
    have zN3 : (N != N) = false := by simp
    have zN4 : (N == N) = true := by simp
    obtain rfl : E = s := by rw [HS.out, if_pos he]
    obtain rfl : N = p := by rw [HP.out, if_pos hn]
    clear HS HP
    go_enter Try.func7, Try.ntmps7
    go_wp2_with (go_at_call 9; refine (known_any _).mono ?_; rintro e w1 ⟨rfl, o1⟩; have O1 := Lib.hid (O0.out.trans o1); have BM1 := Lib.hid (BM.out.only o1 (by simp)); have BX1 := Lib.hid (BX.out.only o1 (by simp)); have x0 := BX1.out.cell 0; have x1 := BX1.out.cell 1; have x2 := BX1.out.cell 2; have x3 := fun X => (BX1.out.alloc X).cell 0; have x4 := fun X => (BX1.out.alloc X).cell 1; have x5 := fun X => (BX1.out.alloc X).cell 2; simp only [List.getElem?_cons_zero, List.getElem?_cons_succ] at x0 x1 x2 x3 x4 x5)
    clear o1
    go_region
    have BG := Lib.hid (Blk.new w1 40 [.int .i64 y, .int .i64 z]).drew
    have BM2 := Lib.hid (BM1.out.alloc (.cells #[.int .i64 y, .int .i64 z] 40)).drew
    have O2 := Lib.hid (O1.out.alloc (.cells #[.int .i64 y, .int .i64 z] 40)).drew
    clear x0 x1 x2 x3 x4 x5 BX1 BX BM BM1 O1 O0
    obtain ⟨W, hW⟩ : ∃ W, (w1.alloc (.cells #[.int .i64 y, .int .i64 z] 40)).drew = W := ⟨_, rfl⟩
    rw [hW] at BG BM2 O2 ⊢
    clear hW
    have KEEP := Lib.hid fun (X : World) (hX : Only [] W X) => let g := BG.out.only hX (by simp); let c := (met_cells BM2.out hX).2; show X.cell? ⟨w.heap.size, 0, none⟩ = some (.int .i64 m.c) ∧ X.cell? ⟨w.heap.size, 1, none⟩ = some (.int .i64 m.u) ∧ X.cell? ⟨w.heap.size, 2, none⟩ = some (.int .i64 m.g0) ∧ X.cell? ⟨w.heap.size, 3, none⟩ = some (.int .i64 m.g1) ∧ X.cell? ⟨w.heap.size, 4, none⟩ = some (.int .i64 m.g2) ∧ X.cell? ⟨w.heap.size, 5, none⟩ = some (.int .i64 m.g3) ∧ X.cell? ⟨w.heap.size, 6, none⟩ = some (.int .i64 m.g4) ∧ X.cell? ⟨w.heap.size, 7, none⟩ = some (.int .i64 m.g5) ∧ X.cell? ⟨w1.heap.size, 0, none⟩ = some (.int .i64 y) ∧ X.cell? ⟨w1.heap.size, 1, none⟩ = some (.int .i64 z) from ⟨c.1, c.2.1, c.2.2.1, c.2.2.2.1, c.2.2.2.2.1, c.2.2.2.2.2.1, c.2.2.2.2.2.2.1, c.2.2.2.2.2.2.2, g.cell 0, g.cell 1⟩
    obtain ⟨c0, c1, c2, c3, c4, c5, c6, c7, g0, g1⟩ := KEEP.out W (Only.refl [] W)
    go_wp2_with (first
      | (go_at_call 11; refine (HGR.out _ O2.out).mono ?_; rintro e w3 ⟨v, rfl, o3⟩; have P3 := Lib.hid o3; clear c0 c1 c2 c3 c4 c5 c6 c7 g0 g1; obtain ⟨c0, c1, c2, c3, c4, c5, c6, c7, g0, g1⟩ := KEEP.out _ P3.out; have O3 := Lib.hid (O2.out.trans o3); clear o3)
      | (go_at_call 18; refine (HSE.out _ O3.out).mono ?_; rintro e w4 ⟨D, n, cD, rfl, hD, o4⟩; have P4 := Lib.hid (P3.out.trans o4); clear c0 c1 c2 c3 c4 c5 c6 c7 g0 g1; obtain ⟨c0, c1, c2, c3, c4, c5, c6, c7, g0, g1⟩ := KEEP.out _ P4.out; have O4 := Lib.hid (O3.out.trans o4); clear o4; obtain rfl : n = 0 := hD he; clear hD)
      | (go_at_call 16; refine (HPL.out _ O4.out).mono ?_; rintro e w5 ⟨a, b, rfl, hab, o5⟩; obtain ⟨rfl, rfl⟩ := hab hn; have P5 := Lib.hid ((P4.out.trans o5).alloc (.cells #[.int .i64 0, .int .i64 0] 54)); clear c0 c1 c2 c3 c4 c5 c6 c7 g0 g1; obtain ⟨c0, c1, c2, c3, c4, c5, c6, c7, g0, g1⟩ := KEEP.out _ P5.out; have O5 := Lib.hid ((O4.out.trans o5).alloc (.cells #[.int .i64 0, .int .i64 0] 54)); have BY := Lib.hid (Blk.new w5 54 [.int .i64 0, .int .i64 0]); have Q5 := Lib.hid (Only.refl [] (w5.alloc (.cells #[.int .i64 0, .int .i64 0] 54))); have y0 := BY.out.cell 0; have y1 := BY.out.cell 1; simp only [List.getElem?_cons_zero, List.getElem?_cons_succ] at y0 y1; clear o5)
      | (go_at_call 20; refine (HCM.out _ O5.out).mono ?_; rintro e w6 ⟨rfl, o6⟩; have P6 := Lib.hid (P5.out.trans o6); have Q6 := Lib.hid (Q5.out.trans o6); clear c0 c1 c2 c3 c4 c5 c6 c7 g0 g1; obtain ⟨c0, c1, c2, c3, c4, c5, c6, c7, g0, g1⟩ := KEEP.out _ P6.out; clear y0 y1; have y0 := (BY.out.only Q6.out (by simp)).cell 0; have y1 := (BY.out.only Q6.out (by simp)).cell 1; simp only [List.getElem?_cons_zero, List.getElem?_cons_succ] at y0 y1; have O6 := Lib.hid (O5.out.trans o6); clear o6)
      | (go_at_call 22; refine (HCK.out _ (by first | exact O7.out | exact O6.out)).mono ?_; rintro e w8 ⟨rfl, o8⟩; have P8 := Lib.hid (by first | exact P7.out.trans o8 | exact P6.out.trans o8); have Q8 := Lib.hid (by first | exact Q7.out.trans o8 | exact Q6.out.trans o8); clear c0 c1 c2 c3 c4 c5 c6 c7 g0 g1; obtain ⟨c0, c1, c2, c3, c4, c5, c6, c7, g0, g1⟩ := KEEP.out _ P8.out; clear y0 y1; have y0 := (BY.out.only Q8.out (by simp)).cell 0; have y1 := (BY.out.only Q8.out (by simp)).cell 1; simp only [List.getElem?_cons_zero, List.getElem?_cons_succ] at y0 y1; have O8 := Lib.hid (by first | exact O7.out.trans o8 | exact O6.out.trans o8); clear o8)
      | (have _h := O8; go_at_call 21; refine (HCG.out _ O8.out).mono ?_; rintro e w9 ⟨rfl, o9⟩; have P9 := Lib.hid (P8.out.trans o9); have Q9 := Lib.hid (Q8.out.trans o9); clear c0 c1 c2 c3 c4 c5 c6 c7 g0 g1; obtain ⟨c0, c1, c2, c3, c4, c5, c6, c7, g0, g1⟩ := KEEP.out _ P9.out; clear y0 y1; have y0 := (BY.out.only Q9.out (by simp)).cell 0; have y1 := (BY.out.only Q9.out (by simp)).cell 1; simp only [List.getElem?_cons_zero, List.getElem?_cons_succ] at y0 y1; have O9 := Lib.hid (O8.out.trans o9); clear o9)
      | (go_at_call 21; refine (HCG.out _ O6.out).mono ?_; rintro e w7 ⟨rfl, o7⟩; have P7 := Lib.hid (P6.out.trans o7); have Q7 := Lib.hid (Q6.out.trans o7); clear c0 c1 c2 c3 c4 c5 c6 c7 g0 g1; obtain ⟨c0, c1, c2, c3, c4, c5, c6, c7, g0, g1⟩ := KEEP.out _ P7.out; clear y0 y1; have y0 := (BY.out.only Q7.out (by simp)).cell 0; have y1 := (BY.out.only Q7.out (by simp)).cell 1; simp only [List.getElem?_cons_zero, List.getElem?_cons_succ] at y0 y1; have O7 := Lib.hid (O6.out.trans o7); clear o7))
    go_ret
    exact ⟨rfl, O8.out⟩
  · have zE1 : (E == 0) = false := by simpa using he
    have zE2 : (E != 0) = true := by simpa using he
    have zE3 : (E != E) = false := by simp
    have zE4 : (E == E) = true := by simp
    obtain rfl : E = s := by rw [HS.out, if_pos he]
    obtain rfl : p = 0 := by rw [HP.out]; simp
    clear HS HP
    go_enter Try.func7, Try.ntmps7
    go_wp2_with (go_at_call 9; refine (known_any _).mono ?_; rintro e w1 ⟨rfl, o1⟩; have O1 := Lib.hid (O0.out.trans o1); have BM1 := Lib.hid (BM.out.only o1 (by simp)); have BX1 := Lib.hid (BX.out.only o1 (by simp)); have x0 := BX1.out.cell 0; have x1 := BX1.out.cell 1; have x2 := BX1.out.cell 2; have x3 := fun X => (BX1.out.alloc X).cell 0; have x4 := fun X => (BX1.out.alloc X).cell 1; have x5 := fun X => (BX1.out.alloc X).cell 2; simp only [List.getElem?_cons_zero, List.getElem?_cons_succ] at x0 x1 x2 x3 x4 x5)
    clear o1
    go_region
    have BG := Lib.hid (Blk.new w1 40 [.int .i64 y, .int .i64 z]).drew
    have BM2 := Lib.hid (BM1.out.alloc (.cells #[.int .i64 y, .int .i64 z] 40)).drew
    have O2 := Lib.hid (O1.out.alloc (.cells #[.int .i64 y, .int .i64 z] 40)).drew
    clear x0 x1 x2 x3 x4 x5 BX1 BX BM BM1 O1 O0
    obtain ⟨W, hW⟩ : ∃ W, (w1.alloc (.cells #[.int .i64 y, .int .i64 z] 40)).drew = W := ⟨_, rfl⟩
    rw [hW] at BG BM2 O2 ⊢
    clear hW
    have KEEP := Lib.hid fun (X : World) (hX : Only [] W X) => let g := BG.out.only hX (by simp); let c := (met_cells BM2.out hX).2; show X.cell? ⟨w.heap.size, 0, none⟩ = some (.int .i64 m.c) ∧ X.cell? ⟨w.heap.size, 1, none⟩ = some (.int .i64 m.u) ∧ X.cell? ⟨w.heap.size, 2, none⟩ = some (.int .i64 m.g0) ∧ X.cell? ⟨w.heap.size, 3, none⟩ = some (.int .i64 m.g1) ∧ X.cell? ⟨w.heap.size, 4, none⟩ = some (.int .i64 m.g2) ∧ X.cell? ⟨w.heap.size, 5, none⟩ = some (.int .i64 m.g3) ∧ X.cell? ⟨w.heap.size, 6, none⟩ = some (.int .i64 m.g4) ∧ X.cell? ⟨w.heap.size, 7, none⟩ = some (.int .i64 m.g5) ∧ X.cell? ⟨w1.heap.size, 0, none⟩ = some (.int .i64 y) ∧ X.cell? ⟨w1.heap.size, 1, none⟩ = some (.int .i64 z) from ⟨c.1, c.2.1, c.2.2.1, c.2.2.2.1, c.2.2.2.2.1, c.2.2.2.2.2.1, c.2.2.2.2.2.2.1, c.2.2.2.2.2.2.2, g.cell 0, g.cell 1⟩
    obtain ⟨c0, c1, c2, c3, c4, c5, c6, c7, g0, g1⟩ := KEEP.out W (Only.refl [] W)
    go_wp2_with (first
      | (go_at_call 11; refine (HGR.out _ O2.out).mono ?_; rintro e w3 ⟨v, rfl, o3⟩; have P3 := Lib.hid o3; clear c0 c1 c2 c3 c4 c5 c6 c7 g0 g1; obtain ⟨c0, c1, c2, c3, c4, c5, c6, c7, g0, g1⟩ := KEEP.out _ P3.out; have O3 := Lib.hid (O2.out.trans o3); clear o3)
      | (go_at_call 18; refine (HSE.out _ O3.out).mono ?_; rintro e w4 ⟨D, n, cD, rfl, hD, o4⟩; have P4 := Lib.hid (P3.out.trans o4); clear c0 c1 c2 c3 c4 c5 c6 c7 g0 g1; obtain ⟨c0, c1, c2, c3, c4, c5, c6, c7, g0, g1⟩ := KEEP.out _ P4.out; have O4 := Lib.hid (O3.out.trans o4); clear o4; obtain rfl : n = 0 := hD he; clear hD)
      | (go_at_call 16; refine (HPL.out _ O4.out).mono ?_; rintro e w5 ⟨a, b, rfl, hab, o5⟩; have P5 := Lib.hid ((P4.out.trans o5).alloc (.cells #[.int .i64 a, .int .i64 b] 54)); clear c0 c1 c2 c3 c4 c5 c6 c7 g0 g1; obtain ⟨c0, c1, c2, c3, c4, c5, c6, c7, g0, g1⟩ := KEEP.out _ P5.out; have O5 := Lib.hid ((O4.out.trans o5).alloc (.cells #[.int .i64 a, .int .i64 b] 54)); have BY := Lib.hid (Blk.new w5 54 [.int .i64 a, .int .i64 b]); have Q5 := Lib.hid (Only.refl [] (w5.alloc (.cells #[.int .i64 a, .int .i64 b] 54))); have y0 := BY.out.cell 0; have y1 := BY.out.cell 1; simp only [List.getElem?_cons_zero, List.getElem?_cons_succ] at y0 y1; clear o5; have HAB := Lib.hid hab; clear hab)
      | (go_at_call 20; refine (HCM.out _ O5.out).mono ?_; rintro e w6 ⟨rfl, o6⟩; have P6 := Lib.hid (P5.out.trans o6); have Q6 := Lib.hid (Q5.out.trans o6); clear c0 c1 c2 c3 c4 c5 c6 c7 g0 g1; obtain ⟨c0, c1, c2, c3, c4, c5, c6, c7, g0, g1⟩ := KEEP.out _ P6.out; clear y0 y1; have y0 := (BY.out.only Q6.out (by simp)).cell 0; have y1 := (BY.out.only Q6.out (by simp)).cell 1; simp only [List.getElem?_cons_zero, List.getElem?_cons_succ] at y0 y1; have O6 := Lib.hid (O5.out.trans o6); clear o6)
      | (go_at_call 22; refine (HCK.out _ (by first | exact O7.out | exact O6.out)).mono ?_; rintro e w8 ⟨rfl, o8⟩; have P8 := Lib.hid (by first | exact P7.out.trans o8 | exact P6.out.trans o8); have Q8 := Lib.hid (by first | exact Q7.out.trans o8 | exact Q6.out.trans o8); clear c0 c1 c2 c3 c4 c5 c6 c7 g0 g1; obtain ⟨c0, c1, c2, c3, c4, c5, c6, c7, g0, g1⟩ := KEEP.out _ P8.out; clear y0 y1; have y0 := (BY.out.only Q8.out (by simp)).cell 0; have y1 := (BY.out.only Q8.out (by simp)).cell 1; simp only [List.getElem?_cons_zero, List.getElem?_cons_succ] at y0 y1; have O8 := Lib.hid (by first | exact O7.out.trans o8 | exact O6.out.trans o8); clear o8)
      | (have _h := O8; go_at_call 21; refine (HCG.out _ O8.out).mono ?_; rintro e w9 ⟨rfl, o9⟩; have P9 := Lib.hid (P8.out.trans o9); have Q9 := Lib.hid (Q8.out.trans o9); clear c0 c1 c2 c3 c4 c5 c6 c7 g0 g1; obtain ⟨c0, c1, c2, c3, c4, c5, c6, c7, g0, g1⟩ := KEEP.out _ P9.out; clear y0 y1; have y0 := (BY.out.only Q9.out (by simp)).cell 0; have y1 := (BY.out.only Q9.out (by simp)).cell 1; simp only [List.getElem?_cons_zero, List.getElem?_cons_succ] at y0 y1; have O9 := Lib.hid (O8.out.trans o9); clear o9)
      | (go_at_call 21; refine (HCG.out _ O6.out).mono ?_; rintro e w7 ⟨rfl, o7⟩; have P7 := Lib.hid (P6.out.trans o7); have Q7 := Lib.hid (Q6.out.trans o7); clear c0 c1 c2 c3 c4 c5 c6 c7 g0 g1; obtain ⟨c0, c1, c2, c3, c4, c5, c6, c7, g0, g1⟩ := KEEP.out _ P7.out; clear y0 y1; have y0 := (BY.out.only Q7.out (by simp)).cell 0; have y1 := (BY.out.only Q7.out (by simp)).cell 1; simp only [List.getElem?_cons_zero, List.getElem?_cons_succ] at y0 y1; have O7 := Lib.hid (O6.out.trans o7); clear o7))
    go_ret
    exact ⟨rfl, O9.out⟩
  · have zE1 : (E == 0) = false := by simpa using he
    have zE2 : (E != 0) = true := by simpa using he
    have zE3 : (E != E) = false := by simp
    have zE4 : (E == E) = true := by simp
    have zG1 : (G == 0) = false := by simpa using hg
    have zG2 : (G != 0) = true := by simpa using hg
    have zG3 : (G != G) = false := by simp
    have zG4 : (G == G) = true := by simp
    obtain rfl : E = s := by rw [HS.out, if_pos he]
    obtain rfl : G = p := by rw [HP.out]; simp
    clear HS HP
    go_enter Try.func7, Try.ntmps7
    go_wp2_with (go_at_call 9; refine (known_any _).mono ?_; rintro e w1 ⟨rfl, o1⟩; have O1 := Lib.hid (O0.out.trans o1); have BM1 := Lib.hid (BM.out.only o1 (by simp)); have BX1 := Lib.hid (BX.out.only o1 (by simp)); have x0 := BX1.out.cell 0; have x1 := BX1.out.cell 1; have x2 := BX1.out.cell 2; have x3 := fun X => (BX1.out.alloc X).cell 0; have x4 := fun X => (BX1.out.alloc X).cell 1; have x5 := fun X => (BX1.out.alloc X).cell 2; simp only [List.getElem?_cons_zero, List.getElem?_cons_succ] at x0 x1 x2 x3 x4 x5)
    clear o1
    go_region
    have BG := Lib.hid (Blk.new w1 40 [.int .i64 y, .int .i64 z]).drew
    have BM2 := Lib.hid (BM1.out.alloc (.cells #[.int .i64 y, .int .i64 z] 40)).drew
    have O2 := Lib.hid (O1.out.alloc (.cells #[.int .i64 y, .int .i64 z] 40)).drew
    clear x0 x1 x2 x3 x4 x5 BX1 BX BM BM1 O1 O0
    obtain ⟨W, hW⟩ : ∃ W, (w1.alloc (.cells #[.int .i64 y, .int .i64 z] 40)).drew = W := ⟨_, rfl⟩
    rw [hW] at BG BM2 O2 ⊢
    clear hW
    have KEEP := Lib.hid fun (X : World) (hX : Only [] W X) => let g := BG.out.only hX (by simp); let c := (met_cells BM2.out hX).2; show X.cell? ⟨w.heap.size, 0, none⟩ = some (.int .i64 m.c) ∧ X.cell? ⟨w.heap.size, 1, none⟩ = some (.int .i64 m.u) ∧ X.cell? ⟨w.heap.size, 2, none⟩ = some (.int .i64 m.g0) ∧ X.cell? ⟨w.heap.size, 3, none⟩ = some (.int .i64 m.g1) ∧ X.cell? ⟨w.heap.size, 4, none⟩ = some (.int .i64 m.g2) ∧ X.cell? ⟨w.heap.size, 5, none⟩ = some (.int .i64 m.g3) ∧ X.cell? ⟨w.heap.size, 6, none⟩ = some (.int .i64 m.g4) ∧ X.cell? ⟨w.heap.size, 7, none⟩ = some (.int .i64 m.g5) ∧ X.cell? ⟨w1.heap.size, 0, none⟩ = some (.int .i64 y) ∧ X.cell? ⟨w1.heap.size, 1, none⟩ = some (.int .i64 z) from ⟨c.1, c.2.1, c.2.2.1, c.2.2.2.1, c.2.2.2.2.1, c.2.2.2.2.2.1, c.2.2.2.2.2.2.1, c.2.2.2.2.2.2.2, g.cell 0, g.cell 1⟩
    obtain ⟨c0, c1, c2, c3, c4, c5, c6, c7, g0, g1⟩ := KEEP.out W (Only.refl [] W)
    go_wp2_with (first
      | (go_at_call 11; refine (HGR.out _ O2.out).mono ?_; rintro e w3 ⟨v, rfl, o3⟩; have P3 := Lib.hid o3; clear c0 c1 c2 c3 c4 c5 c6 c7 g0 g1; obtain ⟨c0, c1, c2, c3, c4, c5, c6, c7, g0, g1⟩ := KEEP.out _ P3.out; have O3 := Lib.hid (O2.out.trans o3); clear o3)
      | (go_at_call 18; refine (HSE.out _ O3.out).mono ?_; rintro e w4 ⟨D, n, cD, rfl, hD, o4⟩; have P4 := Lib.hid (P3.out.trans o4); clear c0 c1 c2 c3 c4 c5 c6 c7 g0 g1; obtain ⟨c0, c1, c2, c3, c4, c5, c6, c7, g0, g1⟩ := KEEP.out _ P4.out; have O4 := Lib.hid (O3.out.trans o4); clear o4; obtain rfl : n = 0 := hD he; clear hD)
      | (go_at_call 16; refine (HPL.out _ O4.out).mono ?_; rintro e w5 ⟨a, b, rfl, hab, o5⟩; obtain ⟨rfl, rfl⟩ := hab hg; have P5 := Lib.hid ((P4.out.trans o5).alloc (.cells #[.int .i64 0, .int .i64 0] 54)); clear c0 c1 c2 c3 c4 c5 c6 c7 g0 g1; obtain ⟨c0, c1, c2, c3, c4, c5, c6, c7, g0, g1⟩ := KEEP.out _ P5.out; have O5 := Lib.hid ((O4.out.trans o5).alloc (.cells #[.int .i64 0, .int .i64 0] 54)); have BY := Lib.hid (Blk.new w5 54 [.int .i64 0, .int .i64 0]); have Q5 := Lib.hid (Only.refl [] (w5.alloc (.cells #[.int .i64 0, .int .i64 0] 54))); have y0 := BY.out.cell 0; have y1 := BY.out.cell 1; simp only [List.getElem?_cons_zero, List.getElem?_cons_succ] at y0 y1; clear o5)
      | (go_at_call 20; refine (HCM.out _ O5.out).mono ?_; rintro e w6 ⟨rfl, o6⟩; have P6 := Lib.hid (P5.out.trans o6); have Q6 := Lib.hid (Q5.out.trans o6); clear c0 c1 c2 c3 c4 c5 c6 c7 g0 g1; obtain ⟨c0, c1, c2, c3, c4, c5, c6, c7, g0, g1⟩ := KEEP.out _ P6.out; clear y0 y1; have y0 := (BY.out.only Q6.out (by simp)).cell 0; have y1 := (BY.out.only Q6.out (by simp)).cell 1; simp only [List.getElem?_cons_zero, List.getElem?_cons_succ] at y0 y1; have O6 := Lib.hid (O5.out.trans o6); clear o6)
      | (go_at_call 22; refine (HCK.out _ (by first | exact O7.out | exact O6.out)).mono ?_; rintro e w8 ⟨rfl, o8⟩; have P8 := Lib.hid (by first | exact P7.out.trans o8 | exact P6.out.trans o8); have Q8 := Lib.hid (by first | exact Q7.out.trans o8 | exact Q6.out.trans o8); clear c0 c1 c2 c3 c4 c5 c6 c7 g0 g1; obtain ⟨c0, c1, c2, c3, c4, c5, c6, c7, g0, g1⟩ := KEEP.out _ P8.out; clear y0 y1; have y0 := (BY.out.only Q8.out (by simp)).cell 0; have y1 := (BY.out.only Q8.out (by simp)).cell 1; simp only [List.getElem?_cons_zero, List.getElem?_cons_succ] at y0 y1; have O8 := Lib.hid (by first | exact O7.out.trans o8 | exact O6.out.trans o8); clear o8)
      | (have _h := O8; go_at_call 21; refine (HCG.out _ O8.out).mono ?_; rintro e w9 ⟨rfl, o9⟩; have P9 := Lib.hid (P8.out.trans o9); have Q9 := Lib.hid (Q8.out.trans o9); clear c0 c1 c2 c3 c4 c5 c6 c7 g0 g1; obtain ⟨c0, c1, c2, c3, c4, c5, c6, c7, g0, g1⟩ := KEEP.out _ P9.out; clear y0 y1; have y0 := (BY.out.only Q9.out (by simp)).cell 0; have y1 := (BY.out.only Q9.out (by simp)).cell 1; simp only [List.getElem?_cons_zero, List.getElem?_cons_succ] at y0 y1; have O9 := Lib.hid (O8.out.trans o9); clear o9)
      | (go_at_call 21; refine (HCG.out _ O6.out).mono ?_; rintro e w7 ⟨rfl, o7⟩; have P7 := Lib.hid (P6.out.trans o7); have Q7 := Lib.hid (Q6.out.trans o7); clear c0 c1 c2 c3 c4 c5 c6 c7 g0 g1; obtain ⟨c0, c1, c2, c3, c4, c5, c6, c7, g0, g1⟩ := KEEP.out _ P7.out; clear y0 y1; have y0 := (BY.out.only Q7.out (by simp)).cell 0; have y1 := (BY.out.only Q7.out (by simp)).cell 1; simp only [List.getElem?_cons_zero, List.getElem?_cons_succ] at y0 y1; have O7 := Lib.hid (O6.out.trans o7); clear o7))
    go_ret
    exact ⟨rfl, O9.out⟩
end Go.Proofs.Ytglkpoiajebleaa
