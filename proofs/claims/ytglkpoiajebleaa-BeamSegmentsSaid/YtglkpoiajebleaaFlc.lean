/- DERIVED. Contracts of package beam: Flags of proper segments. -/
import Derived.Test.YtglkpoiajebleaaFlg
namespace Go.Proofs.Ytglkpoiajebleaa
open Go.RowKit

/-- How many of the segments cover a note. -/
def cntS (l : List Sg) (p : Int) : Int := ((l.countP fun x => decide (x.f ≤ p ∧ p ≤ x.k) : Nat) : Int)
theorem cntS_rng (l : List Sg) (p : Int) : 0 ≤ cntS l p ∧ cntS l p ≤ l.length := by
  have := List.countP_le_length (p := fun x : Sg => decide (x.f ≤ p ∧ p ≤ x.k)) (l := l)
  unfold cntS; omega
theorem cntS_snoc (l : List Sg) (x : Sg) (p : Int) : cntS (l ++ [x]) p = cntS l p + (if x.f ≤ p ∧ p ≤ x.k then 1 else 0) := by
  unfold cntS
  rw [List.countP_append]
  by_cases h : x.f ≤ p ∧ p ≤ x.k
  · simp [h]
  · simp [h]
/-- The row of a function on n places from F on. -/
def rowS (g : Int → Int) (F : Int) (n : Nat) : List Int := (List.range n).map fun (q : Nat) => g (F + q)
theorem rowS_len (g : Int → Int) (F : Int) (n : Nat) : (rowS g F n).length = n := by simp [rowS]
theorem rowS_get (g : Int → Int) (F : Int) (n q : Nat) (h : q < n) : ((rowS g F n).map (Value.int .i64))[q]? = some (.int .i64 (g (F + q))) := by simp [rowS, h]
theorem rowS_set (g g' : Int → Int) (F : Int) (n q : Nat) (h : ∀ r : Nat, r < n → g' (F + r) = if r = q then g (F + q) + 1 else g (F + r)) :
    ((rowS g F n).map (Value.int .i64)).set q (.int .i64 (g (F + q) + 1)) = (rowS g' F n).map (.int .i64) := by
  apply List.ext_getElem?
  intro r
  simp only [List.getElem?_set, rowS, List.map_map, List.getElem?_map, List.length_map, List.length_range]
  by_cases hr : r < n
  · rw [List.getElem?_range hr]
    simp only [Option.map_some, Function.comp_apply]
    rw [h r hr]
    by_cases e : q = r
    · subst e; simp [hr]
    · rw [if_neg e, if_neg (fun e' => e e'.symm)]
  · rw [List.getElem?_eq_none (by simpa using hr)]
    split <;> simp
    omega
theorem rowS_ext (g g' : Int → Int) (F : Int) (n : Nat) (h : ∀ p, g p = g' p) : rowS g F n = rowS g' F n := by
  unfold rowS; congr 1; funext q; exact h _
/-- The counts while a segment is under way. -/
def midS (l : List Sg) (x : Sg) (i : Int) (p : Int) : Int := cntS l p + if x.f ≤ p ∧ p < i then 1 else 0

set_option maxRecDepth 20000 in
set_option maxHeartbeats 8000000 in
theorem Flags_ok {w : World} {A : Option Addr} {l : List Sg} (c : Nat) (h : SegsAt w A l) (hl : l.length ≤ 768) (f k : Int) (h1 : 0 ≤ f) (h2 : f < k) (h3 : k < 128) (hok : ∀ r (hr : r < l.length), l[r].Ok f k) :
    Calls Try.prog 14 #[grpV f k, .slice A l.length c] w fun e w' => ∃ (g n : Nat), (n : Int) = k - f + 1 ∧ e = .returned (.tuple #[.slice (some ⟨g, 0, none⟩) n n, .int .i64 0]) ∧ w.heap.size ≤ g ∧ Blk w' g 3 ((rowS (cntS l) f n).map (.int .i64)) ∧ Only [] w w' := by
  have HOK := Lib.hid hok
  have H := Lib.hid h
  have n1 : ¬ f < 0 := by omega
  have n2 : ¬ k ≤ f := by omega
  have n3 : ¬ 128 ≤ k := by omega
  have n4 : ¬ 768 < l.length := by omega
  have BB := Lib.hid (Blk.new w 40 [.int .i64 f, .int .i64 k])
  have O0 := Lib.hid ((Only.refl [] w).alloc (.cells #[.int .i64 f, .int .i64 k] 40))
  obtain ⟨m, hm⟩ : ∃ m : Nat, k - f = (m : Int) := ⟨(k - f).toNat, by omega⟩
  have HM := Lib.hid hm
  have hm1 : m < 128 := by omega
  clear hok h hm
  go_enter Try.func14, Try.ntmps14
  go_wp2_with fail
  clear n1 n2 n3
  go_loopw [32] (fun i wr => ∃ j : Nat, j ≤ l.length ∧ i = .int .i64 j ∧ Only [] (w.alloc (.cells #[.int .i64 f, .int .i64 k] 40)) wr) (fun i _ => l.length - (intOf i).toNat)
  case atStart => exact ⟨0, by omega, rfl, Only.refl _ _⟩
  case round =>
    obtain ⟨j, hj, rfl, hO⟩ := hrel
    by_cases hlt : j < l.length
    · obtain ⟨b, off, rfl, hb, hcs⟩ := (H.out.only (O0.out.trans hO)) j hlt
      have hgood := HOK.out j hlt
      have m0 := hcs 0 (by omega)
      have m1 := hcs 1 (by omega)
      have m2 := hcs 2 (by omega)
      have m3 := hcs 3 (by omega)
      simp only [Sg.vs, List.getElem?_cons_zero, List.getElem?_cons_succ, Nat.add_zero] at m0 m1 m2 m3
      clear hcs
      obtain ⟨x, hx⟩ : ∃ x, l[j] = x := ⟨_, rfl⟩
      rw [hx] at m0 m1 m2 m3 hgood
      have j0 : (0 : Int) ≤ (j : Int) := by omega
      have j1 : (j : Int) < (l.length : Int) := by omega
      have BW := (BB.out.only hO (by simp)).alloc (.cells #[.int .i64 x.lv, .int .i64 x.f, .int .i64 x.k, .int .i64 x.hk] 49)
      have q0 := BW.cell 0
      have q1 := BW.cell 1
      simp only [List.getElem?_cons_zero, List.getElem?_cons_succ] at q0 q1
      clear hx BW
      have ca : ¬ x.f < f := by have := hgood.a; omega
      have cb : ¬ x.k < x.f := by have := hgood.b; omega
      have cc : ¬ k < x.k := by have := hgood.c; omega
      have CD := Lib.hid hgood.d
      clear hgood
      go_wp2_with (go_at_call 27; with_reducible refine (in_yes CD.out _).mono ?_; rintro e w' ⟨rfl, rfl⟩)
      go_roundw
      case rel => exact ⟨j + 1, by omega, by go_num, hO.alloc _⟩
      case measure => simp [intOf]; omega
    · have hmk := make_ints (m + 1) (by omega) wr
      have BW := (BB.out.only hO (by simp))
      have q0 := BW.cell 0
      have q1 := BW.cell 1
      simp only [List.getElem?_cons_zero, List.getElem?_cons_succ] at q0 q1
      have hm := HM.out
      push_cast at hmk
      go_wp2_with fail
      have RW := Lib.hid (Blk.new wr 3 (repV 0 0 (m + 1)))
      have BG := Lib.hid (BW.alloc (.cells (repV 0 0 (m + 1)).toArray 3))
      have OG := Lib.hid ((O0.out.trans hO).alloc (.cells (repV 0 0 (m + 1)).toArray 3))
      have GB : w.heap.size ≤ wr.heap.size := (O0.out.trans hO).size
      obtain ⟨W0, hW0⟩ : ∃ W0, wr.alloc (.cells (repV 0 0 (m + 1)).toArray 3) = W0 := ⟨_, rfl⟩
      rw [hW0] at RW BG OG ⊢
      obtain ⟨G, hG⟩ : ∃ G, wr.heap.size = G := ⟨_, rfl⟩
      rw [hG] at RW GB ⊢
      obtain ⟨B, hB⟩ : ∃ B, w.heap.size = B := ⟨_, rfl⟩
      rw [hB] at BG GB ⊢
      have HB := Lib.hid hB
      clear hW0 hG hmk BW q0 q1 hO BB hB
      go_loopw [71] (fun i wr => ∃ j : Nat, j ≤ l.length ∧ i = .int .i64 j ∧ Blk wr G 3 ((rowS (cntS (l.take j)) f (m + 1)).map (.int .i64)) ∧ Blk wr B 40 [.int .i64 f, .int .i64 k] ∧ Only [] w wr) (fun i _ => l.length - (intOf i).toNat)
      case atStart =>
        refine ⟨0, by omega, rfl, ?_, BG.out, OG.out⟩
        have e : (rowS (cntS (l.take 0)) f (m + 1)).map (.int .i64) = repV 0 0 (m + 1) := by
          apply List.ext_getElem
          · simp [rowS, repV, rep]
          · intro r _ _
            simp [rowS, repV, rep, cntS]
        rw [e]; exact RW.out
      case round =>
        clear RW BG OG
        obtain ⟨j, hj, rfl, hR, hBG, hO⟩ := hrel
        by_cases hlt : j < l.length
        · obtain ⟨b, off, rfl, hb, hcs⟩ := (H.out.only hO) j hlt
          have hgood := HOK.out j hlt
          have m0 := hcs 0 (by omega)
          have m1 := hcs 1 (by omega)
          have m2 := hcs 2 (by omega)
          have m3 := hcs 3 (by omega)
          simp only [Sg.vs, List.getElem?_cons_zero, List.getElem?_cons_succ, Nat.add_zero] at m0 m1 m2 m3
          clear hcs
          obtain ⟨x, hx⟩ : ∃ x, l[j] = x := ⟨_, rfl⟩
          rw [hx] at m0 m1 m2 m3 hgood
          have j0 : (0 : Int) ≤ (j : Int) := by omega
          have j1 : (j : Int) < (l.length : Int) := by omega
          have NX := Lib.hid (Blk.new wr 49 [.int .i64 x.lv, .int .i64 x.f, .int .i64 x.k, .int .i64 x.hk])
          have HX := Lib.hid hx
          have HL := Lib.hid j1
          have e1 := NX.out.cell 1
          simp only [List.getElem?_cons_zero, List.getElem?_cons_succ] at e1
          have HGD := Lib.hid hgood
          clear hx hgood
          have hR' := Lib.hid (hR.alloc (.cells #[.int .i64 x.lv, .int .i64 x.f, .int .i64 x.k, .int .i64 x.hk] 49))
          have hBG' := Lib.hid (hBG.alloc (.cells #[.int .i64 x.lv, .int .i64 x.f, .int .i64 x.k, .int .i64 x.hk] 49))
          have hO' := Lib.hid (hO.alloc (.cells #[.int .i64 x.lv, .int .i64 x.f, .int .i64 x.k, .int .i64 x.hk] 49))
          go_wp2_with fail
          obtain ⟨X, hX⟩ : ∃ X, wr.heap.size = X := ⟨_, rfl⟩
          obtain ⟨W1, hW1⟩ : ∃ W1, wr.alloc (.cells #[.int .i64 x.lv, .int .i64 x.f, .int .i64 x.k, .int .i64 x.hk] 49) = W1 := ⟨_, rfl⟩
          rw [hW1] at NX hR' hBG' hO' ⊢
          rw [hX] at NX ⊢
          clear hW1 hX e1 m0 m1 m2 m3 hR hBG hO
          go_loopw [11] (fun v wr => ∃ i : Int, x.f ≤ i ∧ i ≤ x.k + 1 ∧ v = .int .i64 i ∧ Blk wr G 3 ((rowS (midS (l.take j) x i) f (m + 1)).map (.int .i64)) ∧ Blk wr B 40 [.int .i64 f, .int .i64 k] ∧ Blk wr X 49 [.int .i64 x.lv, .int .i64 x.f, .int .i64 x.k, .int .i64 x.hk] ∧ Only [] w wr) (fun v _ => (x.k + 1 - intOf v).toNat)
          case atStart =>
            refine ⟨x.f, by omega, by have := HGD.out.b; omega, rfl, ?_, hBG'.out, NX.out, hO'.out⟩
            rw [rowS_ext (midS (l.take j) x x.f) (cntS (l.take j)) f (m + 1) (fun p => by unfold midS; rw [if_neg (by omega)]; omega)]
            exact hR'.out
          case round =>
            obtain ⟨i, hi1, hi2, rfl, hR, hBG, hX, hO⟩ := hrel
            have i0 := HGD.out.a
            have i2 := HGD.out.c
            have s2 := hX.cell 2
            have b0 := hBG.cell 0
            simp only [List.getElem?_cons_zero, List.getElem?_cons_succ] at s2 b0
            by_cases hik : i ≤ x.k
            · obtain ⟨q, hq⟩ : ∃ q : Nat, i - f = (q : Int) := ⟨(i - f).toNat, by omega⟩
              have hm := HM.out
              have q1 : (q : Int) < (m : Int) + 1 := by omega
              have q0 : (0 : Int) ≤ (q : Int) := by omega
              have cq := hR.cell q
              rw [rowS_get _ _ _ _ (by omega)] at cq
              have fq := hR.frozen q
              have hw := cntS_rng (l.take j) (f + q)
              have hv : 0 ≤ midS (l.take j) x i (f + q) ∧ midS (l.take j) x i (f + q) ≤ 1000 := by
                have : (l.take j).length ≤ l.length := by simp; omega
                unfold midS; split <;> omega
              have HS := Lib.hid (rowS_set (midS (l.take j) x i) (midS (l.take j) x (i + 1)) f (m + 1) q (fun r hr => by
                by_cases e : r = q
                · subst e; rw [if_pos rfl]; unfold midS; rw [if_pos (by omega), if_neg (by omega)]; omega
                · rw [if_neg e]; unfold midS
                  have : (x.f ≤ f + (r : Int) ∧ f + (r : Int) < i + 1) ↔ (x.f ≤ f + (r : Int) ∧ f + (r : Int) < i) := by omega
                  simp only [this]))
              have hne : G ≠ B := hR.ne_ hBG (by decide)
              have hne2 : G ≠ X := hR.ne_ hX (by decide)
              obtain ⟨y, hy⟩ : ∃ y, midS (l.take j) x i (f + q) = y := ⟨_, rfl⟩
              rw [hy] at cq hv HS
              clear hw hm hy
              go_wp2_with fail
              go_roundw
              case rel =>
                refine ⟨i + 1, by omega, by omega, rfl, ?_, hBG.far (p := ⟨G, q, none⟩) hne.symm _, hX.far (p := ⟨G, q, none⟩) hne2.symm _, hO.setCell (p := ⟨G, q, none⟩) (.inr (by have := HB.out; show w.heap.size ≤ G; omega)) _⟩
                rw [← HS.out]
                exact hR.set_ q _
              case measure => simp [intOf]; omega
            · obtain rfl : i = x.k + 1 := by omega
              have HR := Lib.hid hR
              have HBG := Lib.hid hBG
              have HO := Lib.hid hO
              have H2 := Lib.hid hX
              have hik' : ¬ x.k + 1 ≤ x.k := by omega
              go_wp2_with fail
              go_roundw
              case rel =>
                refine ⟨j + 1, by have := HL.out; omega, by go_num, ?_, HBG.out, HO.out⟩
                have hj' : j < l.length := by have := HL.out; omega
                rw [rowS_ext (cntS (l.take (j + 1))) (midS (l.take j) x (x.k + 1)) f (m + 1) (fun p => by
                  rw [take_snoc l j hj', cntS_snoc, HX.out]; unfold midS
                  have : (x.f ≤ p ∧ p ≤ x.k) ↔ (x.f ≤ p ∧ p < x.k + 1) := by omega
                  simp only [this])]
                exact HR.out
              case measure => have := HL.out; simp [intOf]; omega
        · obtain rfl : j = l.length := by omega
          rw [List.take_length] at hR
          have HR := Lib.hid hR
          have HO := Lib.hid hO
          clear hR hO hm
          go_wp2_with fail
          go_ret2
          exact ⟨G, m + 1, by have := HM.out; push_cast; omega, rfl, by have := HB.out; omega, HR.out, HO.out⟩
end Go.Proofs.Ytglkpoiajebleaa
