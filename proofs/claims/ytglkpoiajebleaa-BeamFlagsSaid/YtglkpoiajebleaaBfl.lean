/- DERIVED. BeamFlags: the walk. -/
import Derived.Test.YtglkpoiajebleaaKnw
import Derived.Test.YtglkpoiajebleaaFlc
namespace Go.Proofs.Ytglkpoiajebleaa
open Go.RowKit

set_option maxRecDepth 20000 in
set_option maxHeartbeats 8000000 in
theorem flags_long {w : World} (A : Option Addr) (n c : Nat) (h : 20 < n) (f k : Int) :
    Calls Try.prog 4 #[grpV f k, .slice A n c] w fun e w' => e = .returned (.bool true) ∧ Only [] w w' := by
  have O0 := Lib.hid ((Only.refl [] w).alloc (.cells #[.int .i64 f, .int .i64 k] 40))
  go_enter Try.func4, Try.ntmps4
  go_wp2_with (go_at_call 9; refine (known_any _).mono ?_; rintro e w1 ⟨rfl, o1⟩; have O1 := Lib.hid (O0.out.trans o1); have O0 := O1)
  go_ret
  exact ⟨rfl, O1.out⟩

set_option maxRecDepth 20000 in
set_option maxHeartbeats 8000000 in
theorem flags_badg {w : World} (A : Option Addr) (n c : Nat) (h : n ≤ 20) (f k : Int) (hb : f < 0 ∨ k ≤ f ∨ 128 ≤ k) :
    Calls Try.prog 4 #[grpV f k, .slice A n c] w fun e w' => e = .returned (.bool true) ∧ Only [] w w' := by
  have O0 := Lib.hid ((Only.refl [] w).alloc (.cells #[.int .i64 f, .int .i64 k] 40))
  have BB := Lib.hid (Blk.new w 40 [.int .i64 f, .int .i64 k])
  have HF := Lib.hid fun w2 => Flags_badg w2 A n c f k hb
  have h2 : ¬ 20 < n := by omega
  by_cases t1 : f < 0
  · clear hb
    go_enter Try.func4, Try.ntmps4
    go_wp2_with (first
      | (go_at_call 9; refine (known_any _).mono ?_; rintro e w1 ⟨rfl, o1⟩; have O1 := Lib.hid (O0.out.trans o1); have B1 := Lib.hid (BB.out.only o1 (by simp)); have q0 := B1.out.cell 0; have q1 := B1.out.cell 1; simp only [List.getElem?_cons_zero, List.getElem?_cons_succ] at q0 q1)
      | (go_at_call 14; refine (HF.out _).mono ?_; rintro e w2 ⟨rfl, o2⟩; have O2 := Lib.hid (O1.out.trans o2); have B2 := Lib.hid (B1.out.only o2 (by simp)); have q0 := B2.out.cell 0; have q1 := B2.out.cell 1; simp only [List.getElem?_cons_zero, List.getElem?_cons_succ] at q0 q1))
    go_loopw [7, 8] (fun o i wr => o = .bool true ∧ i = .int .i64 0 ∧ Only [] w wr) (fun _ _ _ => 0)
    case atStart => exact ⟨rfl, rfl, O2.out⟩
    case round =>
      obtain ⟨rfl, rfl, hO⟩ := hrel
      have HO := Lib.hid hO
      have n0 : (decide (0 < (n : Int))) = decide (0 < n) := by simp
      clear hO
      by_cases hn : 0 < n
      · go_wp2_with fail
        go_ret
        exact ⟨rfl, HO.out⟩
      · go_wp2_with fail
        go_ret
        exact ⟨rfl, HO.out⟩
  by_cases t2 : k ≤ f
  · clear hb
    go_enter Try.func4, Try.ntmps4
    go_wp2_with (first
      | (go_at_call 9; refine (known_any _).mono ?_; rintro e w1 ⟨rfl, o1⟩; have O1 := Lib.hid (O0.out.trans o1); have B1 := Lib.hid (BB.out.only o1 (by simp)); have q0 := B1.out.cell 0; have q1 := B1.out.cell 1; simp only [List.getElem?_cons_zero, List.getElem?_cons_succ] at q0 q1)
      | (go_at_call 14; refine (HF.out _).mono ?_; rintro e w2 ⟨rfl, o2⟩; have O2 := Lib.hid (O1.out.trans o2); have B2 := Lib.hid (B1.out.only o2 (by simp)); have q0 := B2.out.cell 0; have q1 := B2.out.cell 1; simp only [List.getElem?_cons_zero, List.getElem?_cons_succ] at q0 q1))
    go_loopw [7, 8] (fun o i wr => o = .bool true ∧ i = .int .i64 0 ∧ Only [] w wr) (fun _ _ _ => 0)
    case atStart => exact ⟨rfl, rfl, O2.out⟩
    case round =>
      obtain ⟨rfl, rfl, hO⟩ := hrel
      have HO := Lib.hid hO
      have n0 : (decide (0 < (n : Int))) = decide (0 < n) := by simp
      clear hO
      by_cases hn : 0 < n
      · go_wp2_with fail
        go_ret
        exact ⟨rfl, HO.out⟩
      · go_wp2_with fail
        go_ret
        exact ⟨rfl, HO.out⟩
  have t3 : 128 ≤ k := by omega
  clear hb
  go_enter Try.func4, Try.ntmps4
  go_wp2_with (first
    | (go_at_call 9; refine (known_any _).mono ?_; rintro e w1 ⟨rfl, o1⟩; have O1 := Lib.hid (O0.out.trans o1); have B1 := Lib.hid (BB.out.only o1 (by simp)); have q0 := B1.out.cell 0; have q1 := B1.out.cell 1; simp only [List.getElem?_cons_zero, List.getElem?_cons_succ] at q0 q1)
    | (go_at_call 14; refine (HF.out _).mono ?_; rintro e w2 ⟨rfl, o2⟩; have O2 := Lib.hid (O1.out.trans o2); have B2 := Lib.hid (B1.out.only o2 (by simp)); have q0 := B2.out.cell 0; have q1 := B2.out.cell 1; simp only [List.getElem?_cons_zero, List.getElem?_cons_succ] at q0 q1))
  go_loopw [7, 8] (fun o i wr => o = .bool true ∧ i = .int .i64 0 ∧ Only [] w wr) (fun _ _ _ => 0)
  case atStart => exact ⟨rfl, rfl, O2.out⟩
  case round =>
    obtain ⟨rfl, rfl, hO⟩ := hrel
    have HO := Lib.hid hO
    have n0 : (decide (0 < (n : Int))) = decide (0 < n) := by simp
    clear hO
    by_cases hn : 0 < n
    · go_wp2_with fail
      go_ret
      exact ⟨rfl, HO.out⟩
    · go_wp2_with fail
      go_ret
      exact ⟨rfl, HO.out⟩

set_option maxRecDepth 20000 in
set_option maxHeartbeats 16000000 in
theorem flags_bads {w : World} {A : Option Addr} {l : List Sg} (c : Nat) (h : SegsAt w A l) (hl : l.length ≤ 20) (f k : Int) (h1 : 0 ≤ f) (h2 : f < k) (h3 : k < 128) (hbad : ∃ r, ∃ hr : r < l.length, ¬ l[r].Ok f k) :
    Calls Try.prog 4 #[grpV f k, .slice A l.length c] w fun e w' => e = .returned (.bool true) ∧ Only [] w w' := by
  have O0 := Lib.hid ((Only.refl [] w).alloc (.cells #[.int .i64 f, .int .i64 k] 40))
  have BB := Lib.hid (Blk.new w 40 [.int .i64 f, .int .i64 k])
  have H := Lib.hid h
  have HF := Lib.hid fun w2 (o : Only [] w w2) => Flags_bads c (h.only o) (by omega) f k h1 h2 h3 hbad
  have HBAD := Lib.hid hbad
  have n1 : ¬ 20 < l.length := by omega
  have n2 : ¬ f < 0 := by omega
  have n3 : ¬ k ≤ f := by omega
  have n4 : ¬ 128 ≤ k := by omega
  clear h hbad
  go_enter Try.func4, Try.ntmps4
  go_wp2_with (first
    | (go_at_call 9; refine (known_any _).mono ?_; rintro e w1 ⟨rfl, o1⟩; have O1 := Lib.hid (O0.out.trans o1); have B1 := Lib.hid (BB.out.only o1 (by simp)); have q0 := B1.out.cell 0; have q1 := B1.out.cell 1; simp only [List.getElem?_cons_zero, List.getElem?_cons_succ] at q0 q1)
    | (go_at_call 14; refine (HF.out _ O1.out).mono ?_; rintro e w2 ⟨rfl, o2⟩; have O2 := Lib.hid (O1.out.trans o2); have B2 := Lib.hid (B1.out.only o2 (by simp)); have q0 := B2.out.cell 0; have q1 := B2.out.cell 1; simp only [List.getElem?_cons_zero, List.getElem?_cons_succ] at q0 q1))
  go_loopw [7, 8] (fun o i wr => ∃ (j : Nat) (bd : Bool), j ≤ l.length ∧ i = .int .i64 j ∧ o = .bool bd ∧ (bd = false ∧ Hid (∀ r (hr : r < l.length), r < j → l[r].Ok f k) ∨ bd = true ∧ 0 < j) ∧ Only [] w2 wr) (fun _ i _ => l.length - (intOf i).toNat)
  case atStart => exact ⟨0, false, by omega, rfl, congrArg Value.bool (by rw [decide_eq_false (show ¬ f < 0 by omega), decide_eq_false (show ¬ k ≤ f by omega), decide_eq_false (show ¬ 128 ≤ k by omega)]; rfl), .inl ⟨rfl, Lib.hid (fun r _ h => absurd h (by omega))⟩, Only.refl _ _⟩
  case round =>
    obtain ⟨j, bd, hj, rfl, rfl, hD, hO2⟩ := hrel
    have hO := O2.out.trans hO2
    have HO := Lib.hid hO2
    rcases hD with ⟨rfl, HA⟩ | ⟨rfl, hj0⟩
    · by_cases hlt : j < l.length
      · obtain ⟨b, off, rfl, hb, hcs⟩ := (H.out.only hO) j hlt
        have m0 := hcs 0 (by omega)
        have m1 := hcs 1 (by omega)
        have m2 := hcs 2 (by omega)
        have m3 := hcs 3 (by omega)
        simp only [Sg.vs, List.getElem?_cons_zero, List.getElem?_cons_succ, Nat.add_zero] at m0 m1 m2 m3
        clear hcs
        obtain ⟨x, hx⟩ : ∃ x, l[j] = x := ⟨_, rfl⟩
        rw [hx] at m0 m1 m2 m3
        have HX := Lib.hid hx
        have j0 : (0 : Int) ≤ (j : Int) := by omega
        have j1 : (j : Int) < (l.length : Int) := by omega
        have bb := B2.out.only (hO2) (by simp)
        have q0 := bb.cell 0
        have q1 := bb.cell 1
        simp only [List.getElem?_cons_zero, List.getElem?_cons_succ] at q0 q1
        clear hx hO hO2 bb
        by_cases ca : x.f < f
        · have dca : (decide (x.f < f)) = true := decide_eq_true ca
          have HNO := Lib.hid (show ¬ l[j].Ok f k from fun ok => by have := HX.out; have a := ok.a; have b := ok.b; have c := ok.c; have d := ok.d; rw [this] at a b c d; omega)
          go_wp2_with fail
          go_quiet (fail)
          go_wp2
          go_roundw
          case rel => exact ⟨j + 1, true, by omega, by go_num, rfl, .inr ⟨rfl, by omega⟩, HO.out.drewN _⟩
          case measure => simp [intOf]; omega
          
        have dca : (decide (x.f < f)) = false := decide_eq_false ca
        by_cases cb : x.k < x.f
        · have dcb : (decide (x.k < x.f)) = true := decide_eq_true cb
          have HNO := Lib.hid (show ¬ l[j].Ok f k from fun ok => by have := HX.out; have a := ok.a; have b := ok.b; have c := ok.c; have d := ok.d; rw [this] at a b c d; omega)
          go_wp2_with fail
          go_quiet (fail)
          go_wp2
          go_roundw
          case rel => exact ⟨j + 1, true, by omega, by go_num, rfl, .inr ⟨rfl, by omega⟩, HO.out.drewN _⟩
          case measure => simp [intOf]; omega
          
        have dcb : (decide (x.k < x.f)) = false := decide_eq_false cb
        by_cases cc : k < x.k
        · have dcc : (decide (k < x.k)) = true := decide_eq_true cc
          have HNO := Lib.hid (show ¬ l[j].Ok f k from fun ok => by have := HX.out; have a := ok.a; have b := ok.b; have c := ok.c; have d := ok.d; rw [this] at a b c d; omega)
          go_wp2_with fail
          go_quiet (fail)
          go_wp2
          go_roundw
          case rel => exact ⟨j + 1, true, by omega, by go_num, rfl, .inr ⟨rfl, by omega⟩, HO.out.drewN _⟩
          case measure => simp [intOf]; omega
          
        have dcc : (decide (k < x.k)) = false := decide_eq_false cc
        by_cases cd : x.lv < 1
        · have dcd : (decide (x.lv < 1)) = true := decide_eq_true cd
          have HNO := Lib.hid (show ¬ l[j].Ok f k from fun ok => by have := HX.out; have a := ok.a; have b := ok.b; have c := ok.c; have d := ok.d; rw [this] at a b c d; omega)
          go_wp2_with fail
          go_quiet (fail)
          go_wp2
          go_roundw
          case rel => exact ⟨j + 1, true, by omega, by go_num, rfl, .inr ⟨rfl, by omega⟩, HO.out.drewN _⟩
          case measure => simp [intOf]; omega
          
        have dcd : (decide (x.lv < 1)) = false := decide_eq_false cd
        by_cases ce : 6 < x.lv
        · have dce : (decide (6 < x.lv)) = true := decide_eq_true ce
          have HNO := Lib.hid (show ¬ l[j].Ok f k from fun ok => by have := HX.out; have a := ok.a; have b := ok.b; have c := ok.c; have d := ok.d; rw [this] at a b c d; omega)
          go_wp2_with fail
          go_quiet (fail)
          go_wp2
          go_roundw
          case rel => exact ⟨j + 1, true, by omega, by go_num, rfl, .inr ⟨rfl, by omega⟩, HO.out.drewN _⟩
          case measure => simp [intOf]; omega
          
        have dce : (decide (6 < x.lv)) = false := decide_eq_false ce
        have HA2 := Lib.hid (show ∀ r (hr : r < l.length), r < j + 1 → l[r].Ok f k from fun r hr h => by
          by_cases e : r = j
          · subst e; rw [HX.out]; exact ⟨by omega, by omega, by omega, by omega⟩
          · exact HA.out r hr (by omega))
        go_wp2_with fail
        go_quiet (fail)
        go_wp2
        go_roundw
        case rel => exact ⟨j + 1, false, by omega, by go_num, rfl, .inl ⟨rfl, HA2⟩, HO.out.drewN _⟩
        case measure => simp [intOf]; omega
      · exact absurd HBAD.out (by
          rintro ⟨r, hr, hn⟩
          exact hn (HA.out r hr (by omega)))
    · have O9 := Lib.hid hO
      clear hO hO2
      by_cases hlt : (j : Int) < (l.length : Int)
      · go_wp2_with fail
        go_ret
        exact ⟨rfl, O9.out⟩
      · go_wp2_with fail
        go_ret
        exact ⟨rfl, O9.out⟩

set_option maxRecDepth 20000 in
set_option maxHeartbeats 16000000 in
theorem flags_good {w : World} {A : Option Addr} {l : List Sg} (c : Nat) (h : SegsAt w A l) (hl : l.length ≤ 20) (f k : Int) (h1 : 0 ≤ f) (h2 : f < k) (h3 : k < 128) (hok : ∀ r (hr : r < l.length), l[r].Ok f k) :
    Calls Try.prog 4 #[grpV f k, .slice A l.length c] w fun e w' => e = .returned (.bool true) ∧ Only [] w w' := by
  have O0 := Lib.hid ((Only.refl [] w).alloc (.cells #[.int .i64 f, .int .i64 k] 40))
  have BB := Lib.hid (Blk.new w 40 [.int .i64 f, .int .i64 k])
  have H := Lib.hid h
  have HF := Lib.hid fun w2 (o : Only [] w w2) => Flags_ok c (h.only o) (by omega) f k h1 h2 h3 hok
  have HOK := Lib.hid hok
  have n1 : ¬ 20 < l.length := by omega
  have n2 : ¬ f < 0 := by omega
  have n3 : ¬ k ≤ f := by omega
  have n4 : ¬ 128 ≤ k := by omega
  clear h hok
  go_enter Try.func4, Try.ntmps4
  go_wp2_with (first
    | (go_at_call 9; refine (known_any _).mono ?_; rintro e w1 ⟨rfl, o1⟩; have O1 := Lib.hid (O0.out.trans o1); have B1 := Lib.hid (BB.out.only o1 (by simp)); have q0 := B1.out.cell 0; have q1 := B1.out.cell 1; simp only [List.getElem?_cons_zero, List.getElem?_cons_succ] at q0 q1)
    | (go_at_call 14; refine (HF.out _ O1.out).mono ?_; rintro e w2 ⟨G, n, hn, rfl, hG, hrow, o2⟩; have HN := Lib.hid hn; have ROW := Lib.hid hrow; clear hn hrow; have O2 := Lib.hid (O1.out.trans o2); have B2 := Lib.hid (B1.out.only o2 (by simp)); have q0 := B2.out.cell 0; have q1 := B2.out.cell 1; simp only [List.getElem?_cons_zero, List.getElem?_cons_succ] at q0 q1))
  go_loopw [7, 8] (fun o i wr => ∃ (j : Nat), j ≤ l.length ∧ i = .int .i64 j ∧ o = .bool false ∧ Only [] w2 wr) (fun _ i _ => l.length - (intOf i).toNat)
  case atStart => exact ⟨0, by omega, rfl, congrArg Value.bool (by rw [decide_eq_false (show ¬ f < 0 by omega), decide_eq_false (show ¬ k ≤ f by omega), decide_eq_false (show ¬ 128 ≤ k by omega)]; rfl), Only.refl _ _⟩
  case round =>
    obtain ⟨j, hj, rfl, rfl, hO2⟩ := hrel
    have hO := O2.out.trans hO2
    have HO := Lib.hid hO2
    by_cases hlt : j < l.length
    · obtain ⟨b, off, rfl, hb, hcs⟩ := (H.out.only hO) j hlt
      have m0 := hcs 0 (by omega)
      have m1 := hcs 1 (by omega)
      have m2 := hcs 2 (by omega)
      have m3 := hcs 3 (by omega)
      simp only [Sg.vs, List.getElem?_cons_zero, List.getElem?_cons_succ, Nat.add_zero] at m0 m1 m2 m3
      clear hcs
      obtain ⟨x, hx⟩ : ∃ x, l[j] = x := ⟨_, rfl⟩
      rw [hx] at m0 m1 m2 m3
      have HX := Lib.hid hx
      have j0 : (0 : Int) ≤ (j : Int) := by omega
      have j1 : (j : Int) < (l.length : Int) := by omega
      have bb := B2.out.only (hO2) (by simp)
      have q0 := bb.cell 0
      have q1 := bb.cell 1
      simp only [List.getElem?_cons_zero, List.getElem?_cons_succ] at q0 q1
      have hgood := HOK.out j hlt
      rw [HX.out] at hgood
      have ca : ¬ x.f < f := by have := hgood.a; omega
      have cb : ¬ x.k < x.f := by have := hgood.b; omega
      have cc : ¬ k < x.k := by have := hgood.c; omega
      have cd : ¬ x.lv < 1 := by have := hgood.d; omega
      have ce : ¬ 6 < x.lv := by have := hgood.d; omega
      have dca := decide_eq_false ca
      have dcb := decide_eq_false cb
      have dcc := decide_eq_false cc
      have dcd := decide_eq_false cd
      have dce := decide_eq_false ce
      clear hx hO hO2 bb hgood
      go_wp2_with fail
      go_quiet (fail)
      go_wp2
      go_roundw
      case rel => exact ⟨j + 1, by omega, by go_num, rfl, HO.out.drewN _⟩
      case measure => simp [intOf]; omega
    · have BW := B2.out.only hO2 (by simp)
      have q0 := BW.cell 0
      have q1 := BW.cell 1
      simp only [List.getElem?_cons_zero, List.getElem?_cons_succ] at q0 q1
      have k1 : IntKind.i64.wrap (k - f) = k - f := IntWalk.i64_in _ (by omega)
      have k2 : IntKind.i64.wrap (k - f + 1) = k - f + 1 := IntWalk.i64_in _ (by omega)
      have hn2 := HN.out.symm
      have ROW1 := Lib.hid (ROW.out.only hO2 (by simp))
      have BW1 := Lib.hid BW
      have OW := Lib.hid hO
      clear hO hO2 BW HO
      go_wp2_with fail
      obtain ⟨V, rfl⟩ : ∃ V, V = wr := ⟨_, rfl⟩
      clear q0 q1 hn2 k1 k2
      have nn : n ≤ 128 := by have := HN.out; omega
      go_loopw [9] (fun i wr => ∃ q : Nat, q ≤ n ∧ i = .int .i64 q ∧ Only [] V wr) (fun i _ => n - (intOf i).toNat)
      case atStart => exact ⟨0, by omega, rfl, Only.refl _ _⟩
      case round =>
        obtain ⟨q, hq, rfl, hO⟩ := hrel
        have HO := Lib.hid hO
        clear hO
        by_cases hqn : q < n
        · have HQ := Lib.hid hqn
          have q3 : (0 : Int) ≤ (q : Int) := by omega
          have q4 : (q : Int) < (n : Int) := by omega
          go_wp2_with fail
          obtain ⟨V2, rfl⟩ : ∃ V2, V2 = wr := ⟨_, rfl⟩
          go_loopw [10, 11] (fun kv i wr => ∃ j : Nat, j ≤ l.length ∧ i = .int .i64 j ∧ kv = .int .i64 (cntS (l.take j) (f + q)) ∧ Only [] V2 wr) (fun _ i _ => l.length - (intOf i).toNat)
          case atStart => exact ⟨0, by omega, rfl, rfl, Only.refl _ _⟩
          case round =>
            obtain ⟨j, hj, rfl, rfl, hO2⟩ := hrel
            have hO := (OW.out.trans HO.out).trans hO2
            have hOv := HO.out.trans hO2
            have HO2 := Lib.hid hO2
            have kq : IntKind.i64.wrap (f + (q : Int)) = f + (q : Int) := IntWalk.i64_in _ (by omega)
            by_cases hlt : j < l.length
            · obtain ⟨b, off, rfl, hb, hcs⟩ := (H.out.only hO) j hlt
              have m0 := hcs 0 (by omega)
              have m1 := hcs 1 (by omega)
              have m2 := hcs 2 (by omega)
              have m3 := hcs 3 (by omega)
              simp only [Sg.vs, List.getElem?_cons_zero, List.getElem?_cons_succ, Nat.add_zero] at m0 m1 m2 m3
              clear hcs
              obtain ⟨x, hx⟩ : ∃ x, l[j] = x := ⟨_, rfl⟩
              rw [hx] at m0 m1 m2 m3
              have HX := Lib.hid hx
              have j0 : (0 : Int) ≤ (j : Int) := by omega
              have j1 : (j : Int) < (l.length : Int) := by omega
              have bb := BW1.out.only (hOv) (by simp)
              have q0 := bb.cell 0
              have q1 := bb.cell 1
              simp only [List.getElem?_cons_zero, List.getElem?_cons_succ] at q0 q1
              have hcr := cntS_rng (l.take j) (f + q)
              have hlj : (l.take j).length ≤ 20 := by simp; omega
              have HSN := Lib.hid (show cntS (l.take (j + 1)) (f + q) = cntS (l.take j) (f + q) + if x.f ≤ f + q ∧ f + q ≤ x.k then 1 else 0 by rw [take_snoc l j hlt, cntS_snoc, hx])
              obtain ⟨y, hy⟩ : ∃ y, cntS (l.take j) (f + q) = y := ⟨_, rfl⟩
              rw [hy] at HSN hcr ⊢
              have ky : IntKind.i64.wrap (y + 1) = y + 1 := IntWalk.i64_in _ (by omega)
              clear hx hO hO2 hOv bb hy hcr hlj
              obtain ⟨ba, hba⟩ : ∃ ba, decide (x.f ≤ f + (q : Int)) = ba := ⟨_, rfl⟩
              obtain ⟨bb, hbb⟩ : ∃ bb, decide (f + (q : Int) ≤ x.k) = bb := ⟨_, rfl⟩
              have HBA := Lib.hid hba
              have HBB := Lib.hid hbb
              cases ba
              · go_wp2_with fail
                go_quiet (fail)
                go_wp2
                go_roundw
                case rel =>
                  refine ⟨j + 1, by omega, by go_num, ?_, HO2.out.drewN _⟩
                  have := of_decide_eq_false HBA.out
                  rw [HSN.out, if_neg (by omega)]; simp
                case measure => simp [intOf]; omega
              · cases bb
                · go_wp2_with fail
                  go_quiet (fail)
                  go_wp2
                  go_roundw
                  case rel =>
                    refine ⟨j + 1, by omega, by go_num, ?_, HO2.out.drewN _⟩
                    have := of_decide_eq_false HBB.out
                    rw [HSN.out, if_neg (by omega)]; simp
                  case measure => simp [intOf]; omega
                · go_wp2_with fail
                  go_quiet (fail)
                  go_wp2
                  go_roundw
                  case rel =>
                    refine ⟨j + 1, by omega, by go_num, ?_, HO2.out.drewN _⟩
                    have := of_decide_eq_true HBA.out
                    have := of_decide_eq_true HBB.out
                    rw [HSN.out, if_pos (by omega)]
                  case measure => simp [intOf]; omega
            · obtain rfl : j = l.length := by omega
              rw [List.take_length] at *
              have RW := ROW1.out.only hOv (by simp)
              have cq := RW.cell q
              rw [rowS_get _ _ _ _ HQ.out] at cq
              have cne : ((cntS l (f + q)) != (cntS l (f + q))) = false := by simp
              clear RW hO hO2 hOv
              go_wp2_with fail
              go_roundw
              case rel => exact ⟨q + 1, by have := HQ.out; omega, by go_num, HO.out.trans HO2.out⟩
              case measure => have := HQ.out; simp [intOf]; omega
        · go_wp2_with fail
          go_ret
          exact ⟨rfl, OW.out.trans HO.out⟩
end Go.Proofs.Ytglkpoiajebleaa
