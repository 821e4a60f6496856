/- DERIVED. VerticalBars: the walk. -/
import Derived.Test.YticpophdoiljfaaBar
import Derived.ChangeKeysEq
import Derived.Laws.StructEq
namespace Go.Proofs.Yticpophdoiljfaa
open Go.RowKit
attribute [local go_sem ↓] Go.wp_at_zero Go.wp_at_succ

theorem partsE_ok {ms ps : List Int} {t b : Int} (h : partsE ms ps t b = 0) : Proper ms t b ∧ ps.length = ms.length ∧ Sorted ps := by
  unfold partsE at h
  rcases properB_cases ms t b with ⟨h1, h2⟩ | ⟨h1, h2⟩
  · rw [if_pos h2] at h
    by_cases h3 : ps.length = ms.length
    · rw [if_pos h3] at h
      by_cases h4 : Sorted ps
      · exact ⟨h1, h3, h4⟩
      · rw [sortedB_false h4] at h
        simp at h
    · rw [if_neg h3] at h
      simp at h
  · rw [h2] at h
    simp at h
theorem eq_bars (w : World) (a b : Int) : (Op.equalIn 10000 58 (.agg #[.int .i64 a, .int .i64 b]) (.agg #[.int .i64 a, .int .i64 b])).run Try.prog w = .ok true w := by
  rw [run_equalIn_array w 9999 (n := 2) (e := 3) (i := (Try.prog.info? 3).getD default) _ _ (by kernel_rfl) (by kernel_rfl)]
  have c1 : Try.prog.cellsOf 3 = 1 := by kernel_rfl
  rw [c1, show List.range 2 = [0, 1] from rfl]
  simp only [Op.eqItems]
  have p0 : (part 3 #[Value.int .i64 a, .int .i64 b] (0 * 1)).run Try.prog w = .ok (.int .i64 a) w := by go_simp
  have p1 : (part 3 #[Value.int .i64 a, .int .i64 b] (1 * 1)).run Try.prog w = .ok (.int .i64 b) w := by go_simp
  have e0 : ∀ x : Int, (Op.equalIn 9999 3 (.int .i64 x) (.int .i64 x)).run Try.prog w = .ok true w := fun x => by rw [run_equalIn_int w 9998 3 .i64 .i64 x x (by kernel_rfl)]; simp
  simp [Sem.run_bind, p0, p1, e0]
theorem neq_bars (w : World) (a b : Int) : (binOp .neq 58 (.agg #[.int .i64 a, .int .i64 b]) (.agg #[.int .i64 a, .int .i64 b])).run Try.prog w = .ok (.bool false) w := by
  rw [run_neq_struct, eq_bars]
  rfl
theorem guard_bars (w : World) (x y : Operand) (xs ys : Array Value) : (eqGuard .neq 58 x y (.agg xs) (.agg ys)).run Try.prog w = .ok () w :=
  run_eqGuard_agg w .neq _ x y xs ys (by kernel_rfl)
attribute [local go_sem] eq_bars guard_bars
theorem own_sl {w : World} {base n size : Nat} {e : TypeId} {v : Value} {xs : List Value} (h : w.ownsRow base e size v n xs) : ∃ A c, v = .slice A n c := by
  rcases h.2 with ⟨rfl, rfl⟩ | ⟨g, cap, cur, rfl, _⟩
  · exact ⟨_, _, rfl⟩
  · exact ⟨_, _, rfl⟩
theorem barsOf_get (ms : List Int) : ∀ (xs : List (Nat × Nat)) (m : Nat) (x : Nat × Nat), xs[m]? = some x → (barsOf ms xs)[m * 2]? = some (.int .i64 (ms.getD x.1 0 + 128)) ∧ (barsOf ms xs)[m * 2 + 1]? = some (.int .i64 (ms.getD x.2 0 - 128))
  | y :: xs, 0, x, h => by
    obtain rfl : y = x := by simpa using h
    simp [barsOf]
  | y :: xs, m + 1, x, h => by
    have ih := barsOf_get ms xs m x (by simpa using h)
    have e : barsOf ms (y :: xs) = .int .i64 (ms.getD y.1 0 + 128) :: .int .i64 (ms.getD y.2 0 - 128) :: barsOf ms xs := by simp [barsOf]
    rw [e, show (m + 1) * 2 = m * 2 + 1 + 1 by omega, show m * 2 + 1 + 1 + 1 = (m * 2 + 1) + 1 + 1 by omega]
    simpa using ih

set_option maxRecDepth 20000 in
set_option maxHeartbeats 40000000 in
theorem bars_any {w : World} {A A' : Option Addr} {ms ps : List Int} (c c' : Nat) (t b : Int) (hI : IntsAt w A ms) (hL : ms.length ≤ 9223372036854775807) (hP : IntsAt w A' ps) (hPL : ps.length ≤ 9223372036854775807) :
    Calls Try.prog 7 #[sysV A ms.length c t b, .slice A' ps.length c'] w fun e w' => e = .returned (.bool true) ∧ Only [] w w' := by
  have X := Lib.hid ((Only.refl [] w).alloc (sysBox A ms.length c t b))
  have BB := Lib.hid (Blk.new w 24 [.slice A ms.length c, .int .i64 t, .int .i64 b])
  have HI := Lib.hid (hI.only X.out (by simp))
  have HP := Lib.hid (hP.only X.out (by simp))
  clear hI hP
  by_cases h8 : 8 < ms.length
  · go_enter Try.func7, Try.ntmps7
    go_wp2_with (first
      | (have _t := a10; go_at_call 12; refine (known_any _).mono ?_; rintro e w2 ⟨rfl, o2⟩)
      | (go_at_call 12; refine (known_any _).mono ?_; rintro e w1 ⟨rfl, o1⟩; obtain ⟨a1, a10, a11, a12⟩ := sys_cells BB.out o1))
    go_ret
    exact ⟨rfl, (X.out.trans o1).trans o2⟩
  · by_cases h8p : 8 < ps.length
    · go_enter Try.func7, Try.ntmps7
      go_wp2_with (first
        | (have _t := a10; go_at_call 12; refine (known_any _).mono ?_; rintro e w2 ⟨rfl, o2⟩)
        | (go_at_call 12; refine (known_any _).mono ?_; rintro e w1 ⟨rfl, o1⟩; obtain ⟨a1, a10, a11, a12⟩ := sys_cells BB.out o1))
      go_ret
      exact ⟨rfl, (X.out.trans o1).trans o2⟩
    · obtain ⟨ev, hev⟩ : ∃ ev, partsE ms ps t b = ev := ⟨_, rfl⟩
      have PE := Lib.hid hev
      have EE : (ev == ev) = true := by simp
      by_cases h0 : ev = 0
      · subst h0
        obtain ⟨hpr, hlp, hso⟩ := partsE_ok hev
        have HPR := Lib.hid hpr
        have HLP := Lib.hid hlp
        have HSO := Lib.hid hso
        have hz := hpr.pos
        have hl1 : ps.length ≤ ms.length := Nat.le_of_eq hlp
        have hl2 : ms.length ≤ ps.length := Nat.le_of_eq hlp.symm
        clear hev hpr hlp hso
        go_enter Try.func7, Try.ntmps7
        go_wp2_with (first
          | (go_at_call 28; refine (mparts_any c c' t b (HI.out.only (o1.trans o2) (by simp)) (by omega) (HP.out.only (o1.trans o2) (by simp)) (by omega)).mono ?_; rintro e w3 ⟨rfl, o3⟩; rw [PE.out])
          | (go_at_call 27; refine (Bars_ok c c' t b (HI.out.only o1 (by simp)) (by omega) (HP.out.only o1 (by simp)) HPR.out HLP.out HSO.out).mono ?_; rintro e w2 ⟨v, xs, B, rfl, hAll, hown, o2⟩; obtain ⟨M, rfl, hM1, hM2⟩ := hAll; have HOWN := Lib.hid hown; rw [List.length_map, List.length_range] at HOWN; obtain ⟨VA, vc, rfl⟩ := own_sl HOWN.out; obtain ⟨a2, a20, a21, a22⟩ := sys_cells a1 o2; have HM1 := Lib.hid hM1; have HM2 := Lib.hid hM2)
          | (go_at_call 12; refine (known_any _).mono ?_; rintro e w1 ⟨rfl, o1⟩; obtain ⟨a1, a10, a11, a12⟩ := sys_cells BB.out o1))
        have O3 := Lib.hid ((o1.trans o2).trans o3)
        have hMle : M ≤ ps.length := by have := st_ge ps M HM2.out; have := HM1.out; omega
        have A3 := Lib.hid (a2.only o3 (by simp))
        have HOWN3 := Lib.hid (own_only HOWN.out o3 (by simp))
        have HI3 := Lib.hid (HI.out.only O3.out (by simp))
        have HP3 := Lib.hid (HP.out.only O3.out (by simp))
        have s0 : w3.cell? ⟨w.heap.size, 0, none⟩ = some (.slice A ms.length c) := A3.out.cell 0
        clear a1 a10 a11 a12 a2 a20 a21 a22 o1 o2 o3 hown hM1 hM2 HI HP HOWN
        generalize w.heap.size = R at *
        go_loopw [8, 9] (fun n i wr => ∃ m q : Nat, n = .int .i64 m ∧ i = .int .i64 (st ps m : Nat) ∧ m ≤ M ∧ wr = w3.drewN q) (fun _ i _ => ps.length - (intOf i).toNat)
        case atStart => exact ⟨0, 0, rfl, rfl, by omega, rfl⟩
        case round =>
          obtain ⟨m, q, rfl, rfl, hm, rfl⟩ := hrel
          have hst : ∀ r, r < m → st ps r < ps.length := fun r hr => HM2.out r (by omega)
          have hs1 := st_le ps m hst
          by_cases hlt : st ps m < ps.length
          · have hmM : m < M := by
              have h1 := HM1.out
              by_cases e : m = M
              · subst e; omega
              · omega
            have HSE := Lib.hid (show run ps m = (st ps m, endOf ps (st ps m)) from rfl)
            have HSN := Lib.hid (show st ps (m + 1) = endOf ps (st ps m) + 1 from rfl)
            obtain ⟨s, hs⟩ : ∃ s, st ps m = s := ⟨_, rfl⟩
            rw [hs] at hs1 hlt HSE HSN ⊢
            clear hst hs
            go_wp2
            go_loopw [10] (fun k wr2 => ∃ (k' q : Nat), k = .int .i64 k' ∧ s ≤ k' ∧ k' < ps.length ∧ Hid (∀ r, s < r → r ≤ k' → ps.getD r 0 = ps.getD s 0) ∧ wr2 = w3.drewN q) (fun k _ => ps.length - (intOf k).toNat)
            case atStart => exact ⟨s, _, rfl, Nat.le_refl _, hlt, Lib.hid (fun r h1 h2 => absurd h2 (by omega)), rfl⟩
            case round =>
              obtain ⟨k, q2, rfl, hk1, hk2, HEQ, rfl⟩ := hrel
              obtain ⟨bP, off, rfl, hbP, hcs⟩ := HP3.out s hlt
              have k0 : (0 : Int) ≤ (k : Int) + 1 := by omega
              have k3 : IntKind.i64.wrap ((k : Int) + 1) = (k : Int) + 1 := IntWalk.i64_in _ (by omega)
              have k4 : ((k : Int) + 1).toNat = k + 1 := by omega
              have s1 : (0 : Int) ≤ (s : Int) := by omega
              have s2 : (s : Int) < (ps.length : Int) := by omega
              have G0 := Lib.hid (show ps.getD s 0 = ps[s] by simp [List.getD, hlt])
              obtain ⟨x0, hx0⟩ : ∃ v, ps[s] = v := ⟨_, rfl⟩
              rw [hx0] at hcs G0
              clear hx0
              by_cases hgo : k + 1 < ps.length ∧ ps.getD (k + 1) 0 = x0
              · obtain ⟨hk, hx⟩ := hgo
                obtain ⟨b', off', hA, hb', hck⟩ := HP3.out (k + 1) hk
                simp only [Option.some.injEq, Addr.mk.injEq, and_true] at hA
                obtain ⟨rfl, rfl⟩ := hA
                rw [show ps[k + 1] = x0 by rw [← hx]; simp [List.getD, hk]] at hck
                have HX := Lib.hid hx
                clear hx
                have k5 : (k : Int) + 1 < (ps.length : Int) := by omega
                have k6 : decide ((k : Int) + 1 < (ps.length : Int)) = true := by simp; omega
                go_wp2
                go_quiet (fail)
                go_wp2
                go_roundw
                case rel =>
                  refine ⟨k + 1, _, by go_num, by omega, hk, Lib.hid (fun r h1 h2 => ?_), rfl⟩
                  by_cases e : r = k + 1
                  · subst e; rw [G0.out, HX.out]
                  · exact HEQ.out r h1 (by omega)
                case measure => simp [intOf]; omega
              · have HEND := Lib.hid (show endOf ps s = k from endOf_eq hk1 hk2 HEQ.out (by rw [G0.out]; exact hgo))
                have hMx : ((List.range M).map (run ps))[m]? = some (s, k) := by
                  rw [List.getElem?_map, List.getElem?_range hmM, Option.map_some, HSE.out, HEND.out]
                obtain ⟨g1, g2⟩ := barsOf_get ms _ m _ hMx
                have hls : s < ms.length := by omega
                have hlk : k < ms.length := by omega
                have hVA : ∃ g, VA = some ⟨g, 0, none⟩ := by
                  rcases HOWN3.out.2 with ⟨h1, h2⟩ | ⟨g, cap, cur, h1, _⟩
                  · omega
                  · exact ⟨g, by simpa using (congrArg (fun v => match v with | Value.slice a _ _ => a | _ => none) h1)⟩
                obtain ⟨g, rfl⟩ := hVA
                have d1 : w3.cell? ⟨g, m * 2, none⟩ = some (.int .i64 (ms.getD s 0 + 128)) := (HOWN3.out.cellAt (m * 2) (by omega)).trans g1
                have d2 : w3.cell? ⟨g, m * 2 + 1, none⟩ = some (.int .i64 (ms.getD k 0 - 128)) := (HOWN3.out.cellAt (m * 2 + 1) (by omega)).trans g2
                obtain ⟨bA, offA, rfl, hbA, hm1⟩ := HI3.out s hls
                obtain ⟨bA2, off2, hA2, hbA2, hm2⟩ := HI3.out k hlk
                simp only [Option.some.injEq, Addr.mk.injEq, and_true] at hA2
                obtain ⟨rfl, rfl⟩ := hA2
                have r1 := HPR.out.rng s hls
                have r2 := HPR.out.rng k hlk
                rw [getD_get hls] at d1
                rw [getD_get hlk] at d2
                generalize ms[s] = y1 at *
                generalize ms[k] = y2 at *
                have v1 : IntKind.i64.wrap (y1 + 128) = y1 + 128 := IntWalk.i64_in _ (by omega)
                have v2 : IntKind.i64.wrap (y2 - 128) = y2 - 128 := IntWalk.i64_in _ (by omega)
                have s3 : (s : Int) < (ms.length : Int) := by omega
                have t1 : (0 : Int) ≤ (k : Int) := by omega
                have t2 : (k : Int) < (ms.length : Int) := by omega
                have u0 : (0 : Int) ≤ (m : Int) := by omega
                have u1 : (m : Int) < (M : Int) := by omega
                have u2 : decide (M ≤ m) = false := by simp; omega
                clear hMx g1 g2 hm hlk hls r1 r2
                by_cases hk : k + 1 < ps.length
                · obtain ⟨b', off', hA, hb', hck⟩ := HP3.out (k + 1) hk
                  simp only [Option.some.injEq, Addr.mk.injEq, and_true] at hA
                  obtain ⟨rfl, rfl⟩ := hA
                  have k5 : (k : Int) + 1 < (ps.length : Int) := by omega
                  have k6 : decide ((k : Int) + 1 < (ps.length : Int)) = true := by simp; omega
                  have hx : ¬ ps[k + 1] = x0 := fun e => hgo ⟨hk, by rw [← e]; simp [List.getD, hk]⟩
                  obtain ⟨x1, hx1⟩ : ∃ v, ps[k + 1] = v := ⟨_, rfl⟩
                  rw [hx1] at hck hx
                  have hx' : (x1 == x0) = false := by simpa using hx
                  clear hx hx1 hgo
                  go_wp2
                  go_quiet (fail)
                  go_wp2
                  go_quiet (fail)
                  go_wp2
                  go_roundw
                  case rel => exact ⟨m + 1, _, by go_num, by rw [HSN.out, HEND.out]; go_num, by omega, rfl⟩
                  case measure => simp [intOf]; omega
                · have k6 : decide ((k : Int) + 1 < (ps.length : Int)) = false := by simp; omega
                  clear hgo
                  go_wp2
                  go_quiet (fail)
                  go_wp2
                  go_quiet (fail)
                  go_wp2
                  go_roundw
                  case rel => exact ⟨m + 1, _, by go_num, by rw [HSN.out, HEND.out]; go_num, by omega, rfl⟩
                  case measure => simp [intOf]; omega
          · have hst2 : ps.length ≤ st ps m := by omega
            have hmM : m = M := by
              by_cases e : m = M
              · exact e
              · have := HM2.out m (by omega)
                omega
            have u3 : ((m : Int) == (M : Int)) = true := by simp; omega
            clear hst hmM
            go_wp2
            go_ret
            exact ⟨(by first | rfl | exact ret_bool (by simp)), (X.out.trans O3.out).drewN _⟩
      · have h0' : (ev != 0) = true := by simpa using h0
        have H0 := Lib.hid h0
        clear h0 hev
        go_enter Try.func7, Try.ntmps7
        go_wp2_with (first
          | (go_at_call 28; refine (mparts_any c c' t b (HI.out.only (o1.trans o2) (by simp)) (by omega) (HP.out.only (o1.trans o2) (by simp)) (by omega)).mono ?_; rintro e w3 ⟨rfl, o3⟩; rw [PE.out])
          | (go_at_call 27; refine (Bars_err c c' t b (HI.out.only o1 (by simp)) (by omega) (HP.out.only o1 (by simp)) (by omega) (by rw [PE.out]; exact H0.out)).mono ?_; rintro e w2 ⟨rfl, o2⟩; rw [PE.out]; obtain ⟨a2, a20, a21, a22⟩ := sys_cells a1 o2)
          | (go_at_call 12; refine (known_any _).mono ?_; rintro e w1 ⟨rfl, o1⟩; obtain ⟨a1, a10, a11, a12⟩ := sys_cells BB.out o1))
        go_ret
        exact ⟨(by first | rfl | exact ret_bool (by simp)), ((X.out.trans o1).trans o2).trans o3⟩
end Go.Proofs.Yticpophdoiljfaa
