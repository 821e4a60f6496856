/- DERIVED. SkylineSteps: the walk. -/
import Derived.Test.YtblcgfmgfepajaaPlays
import Derived.Test.YtblcgfmgfepajaaStepsW
namespace Go.Proofs.Ytblcgfmgfepajaa
open Go.RowKit

/-- Where the j-th run begins. -/
def startAt (rs : List Run) : Nat → Nat
  | 0 => 0
  | j + 1 => if h : j < rs.length then rs[j].b + 1 else 0
theorem startAt_eq {h : List Int} {k : Nat} {rs : List Run} (hr : Runs h k rs) (j : Nat) (hj : j < rs.length) : startAt rs j = rs[j].a := by
  rw [hr.first j hj]
  cases j with
  | zero => rfl
  | succ j => simp only [startAt]; rw [dif_pos (by omega), dif_pos (by omega)]; rfl
theorem startAt_last {h : List Int} {k : Nat} {rs : List Run} (hr : Runs h k rs) (hk : 0 < k) : startAt rs rs.length = k := by
  have h0 := hr.none_ hk
  have h1 := hr.last
  rw [dif_pos h0] at h1
  obtain ⟨n, hn⟩ : ∃ n, rs.length = n + 1 := ⟨rs.length - 1, by omega⟩
  rw [hn]
  simp only [startAt]
  rw [dif_pos (by omega), ← h1]
  simp only [hn, Nat.add_sub_cancel]
theorem startAt_succ (rs : List Run) (j : Nat) (hj : j < rs.length) : startAt rs (j + 1) = rs[j].b + 1 := by
  simp only [startAt]
  rw [dif_pos hj]

set_option maxRecDepth 20000 in
set_option maxHeartbeats 2000000 in
theorem stepsl_any (bl : Bool) (c hh : Int) (hc0 : 0 ≤ c) (hc1 : c ≤ 255) (hr : -32768 ≤ hh ∧ hh ≤ 32767) (w : World) (A : Option Addr) (cp : Nat) (ops : List OpR) (ho : OpsAt w A ops) :
    Calls Try.prog 7 #[startV bl c hh, .slice A ops.length cp] w
      fun e w' => e = .returned (.bool true) ∧ Only [] w w' := by
  generalize hside : (if bl then (-1 : Int) else 1) = side
  generalize hH : playTo side (newH side (1 + c.toNat % 40) hh) ops 20 = H
  have HP := Lib.hid (fun W hW => play_any bl c hh hc0 hc1 hr W A cp ops hW)
  rw [hside, hH] at HP
  clear hside hH
  have HO := Lib.hid ho
  have OB := Lib.hid ((Only.refl [] w).alloc (.cells #[.bool bl, .int .u8 c, .int .i16 hh] 35))
  have SS := Lib.hid (Blk.new w 35 [.bool bl, .int .u8 c, .int .i16 hh])
  clear ho
  go_enter Try.func7, Try.ntmps7
  go_wp2_with (first
    | (go_at_call 13; refine (known_any _).mono ?_; rintro e w1 ⟨rfl, ho1⟩; have s := SS.out.only ho1 (by simp); have s0 := s.cell 0; have s1 := s.cell 1; have s2 := s.cell 2; simp at s0 s1 s2)
    | (go_at_call 23; refine (HP.out _ ((HO.out.only OB.out).only ho1)).mono ?_; rintro e w2 ⟨s, g, m, k, cap, sp, rfl, hs, hg, hm, hk, hb, ho2⟩)
    | (go_at_call 29; refine (steps_any hb.sky).mono ?_; rintro e w3 ⟨gg, cap3, rs, rfl, hown, hruns, ho3⟩))
  have HM := hb.mod.only ho3 (by simp) (by simp)
  have hrf := hruns.few
  have hfew := hb.mod.few
  have hpos := hb.mod.pos
  have HX : Only [] w w3 := ((OB.out.trans ho1).trans ho2).trans ho3
  have hsl := startAt_last hruns hpos
  clear hb HP HO OB SS ho1 ho2 ho3 hs hg hm hk s0 s1 s2
  generalize w2.heap.size = base at hown
  go_loopw [8, 9] (fun a i wr => ∃ j : Nat, j ≤ rs.length ∧ i = .int .i64 j ∧ a = .int .i64 (startAt rs j) ∧ wr.ownsRow base 58 3 (.slice (some ⟨gg, 0, none⟩) rs.length cap3) rs.length (runCells side rs) ∧ Mod wr m k cap sp side H ∧ Only [] w wr) (fun _ i _ => rs.length - (intOf i).toNat)
  case atStart => exact ⟨0, Nat.zero_le _, rfl, rfl, hown, HM, HX⟩
  case round =>
    obtain ⟨j, hj, rfl, rfl, hown, HM, HX⟩ := hrel
    by_cases hlt : j < rs.length
    · have hse := startAt_eq hruns j hlt
      have hss := startAt_succ rs j hlt
      obtain ⟨r, hrj⟩ : ∃ r, rs[j] = r := ⟨_, rfl⟩
      have hle := hruns.le j hlt
      have hsame := hruns.same j hlt
      rw [hrj] at hse hss hle hsame
      have x0 : wr.cell? ⟨gg, j * 3, none⟩ = some (.int .i64 r.a) := by
        have := runCells_get side rs j hlt 0 (by omega)
        rw [hown.cellAt _ (by omega), show j * 3 = j * 3 + 0 by omega, this, hrj]; rfl
      have x1 : wr.cell? ⟨gg, j * 3 + 1, none⟩ = some (.int .i64 r.b) := by
        rw [hown.cellAt _ (by omega), runCells_get side rs j hlt 1 (by omega), hrj]; rfl
      have x2 : wr.cell? ⟨gg, j * 3 + 2, none⟩ = some (.int .i64 (side * r.x)) := by
        rw [hown.cellAt _ (by omega), runCells_get side rs j hlt 2 (by omega), hrj]; rfl
      rw [hse]
      have HOW := Lib.hid (hown.alloc (.cells #[.int .i64 r.a, .int .i64 r.b, .int .i64 (side * r.x)] 58))
      have HMW := Lib.hid (HM.alloc (.cells #[.int .i64 r.a, .int .i64 r.b, .int .i64 (side * r.x)] 58))
      have HXW := Lib.hid (HX.alloc (.cells #[.int .i64 r.a, .int .i64 r.b, .int .i64 (side * r.x)] 58))
      have HBX := Lib.hid (Blk.new wr 58 [.int .i64 r.a, .int .i64 r.b, .int .i64 (side * r.x)])
      have j0 : (0 : Int) ≤ (j : Int) := by omega
      have j1 : (j : Int) < (rs.length : Int) := by omega
      clear hown HM HX
      go_wp2_with fail
      have hown := HOW.out
      have HM := HMW.out
      have HX := HXW.out
      have hbox := HBX.out
      generalize wr.alloc (.cells #[.int .i64 r.a, .int .i64 r.b, .int .i64 (side * r.x)] 58) = W at *
      generalize wr.heap.size = B at *
      clear x0 x1 x2 HOW HMW HXW HBX
      have q0 : W.cell? ⟨B, 0, none⟩ = some (.int .i64 r.a) := hbox.cell 0
      have q1 : W.cell? ⟨B, 1, none⟩ = some (.int .i64 r.b) := hbox.cell 1
      have q2 : W.cell? ⟨B, 2, none⟩ = some (.int .i64 (side * r.x)) := hbox.cell 2
      have m1 := HM.h0
      have l0 : ((r.a : Int) != (r.a : Int)) = false := by simp
      have l1 : ¬ (r.b : Int) < (r.a : Int) := by omega
      have l2 : ¬ (H.length : Int) ≤ (r.b : Int) := by omega
      rcases Nat.eq_zero_or_pos j with h0 | h0
      · subst h0
        go_quiet (fail)
        go_wp2
        go_loopw [11] (fun kx w2 => ∃ q n : Nat, r.a ≤ q ∧ q ≤ r.b + 1 ∧ kx = .int .i64 q ∧ w2 = W.drewN n) (fun kx _ => r.b + 1 - (intOf kx).toNat)
        case atStart => exact ⟨r.a, _, Nat.le_refl _, by omega, rfl, rfl⟩
        case round =>
          obtain ⟨q, n, hq1, hq2, rfl, rfl⟩ := hrel
          by_cases hql : q ≤ r.b
          · have c2 : W.cell? ⟨k, q, none⟩ = some (.int .i64 (side * r.x)) := by
              have hqh : q < H.length := by omega
              have e := hsame q hq1 hql
              rw [List.getElem?_eq_getElem hqh] at e
              rw [HM.at_ hqh, Option.some.inj e]
            have y0 : (0 : Int) ≤ (q : Int) := by omega
            have y1 : (q : Int) < (H.length : Int) := by omega
            have y2 : (q : Int) ≤ (r.b : Int) := by omega
            have y3 : (side * r.x != side * r.x) = false := by simp
            go_wp2
            go_quiet (fail)
            go_wp2
            go_roundw
            case rel => exact ⟨q + 1, _, by omega, by omega, by go_num, rfl⟩
            case measure => simp [intOf]; omega
          · have y2 : ¬ (q : Int) ≤ (r.b : Int) := by omega
            go_wp2
            go_roundw
            case rel => exact ⟨0 + 1, by omega, by go_num, by rw [hss]; go_num, hown, HM.drewN _, HX.drewN _⟩
            case measure => simp [intOf]; omega
      · obtain ⟨j, rfl⟩ : ∃ i, j = i + 1 := ⟨j - 1, by omega⟩
        have k0 : (0 : Int) < ((j + 1 : Nat) : Int) := by omega
        have k1 : IntKind.i64.wrap (((j + 1 : Nat) : Int) - 1) = (j : Int) := by rw [IntWalk.i64_in _ (by omega)]; omega
        have k2 : (0 : Int) ≤ (j : Int) := by omega
        have k3 : (j : Int) < (rs.length : Int) := by omega
        have hlt' : j < rs.length := by omega
        have p2 : W.cell? ⟨gg, j * 3 + 2, none⟩ = some (.int .i64 (side * rs[j].x)) := by
          rw [hown.cellAt _ (by omega), runCells_get side rs j hlt' 2 (by omega)]; rfl
        have p3 : (side * rs[j].x == side * r.x) = false := by
          have := hruns.differ j hlt
          rw [hrj] at this
          simp only [beq_eq_false_iff_ne, ne_eq]
          intro e
          apply this
          rcases HM.sides with hh | hh <;> rw [hh] at e <;> omega
        go_quiet (fail)
        go_wp2
        go_loopw [11] (fun kx w2 => ∃ q n : Nat, r.a ≤ q ∧ q ≤ r.b + 1 ∧ kx = .int .i64 q ∧ w2 = W.drewN n) (fun kx _ => r.b + 1 - (intOf kx).toNat)
        case atStart => exact ⟨r.a, _, Nat.le_refl _, by omega, rfl, rfl⟩
        case round =>
          obtain ⟨q, n, hq1, hq2, rfl, rfl⟩ := hrel
          by_cases hql : q ≤ r.b
          · have c2 : W.cell? ⟨k, q, none⟩ = some (.int .i64 (side * r.x)) := by
              have hqh : q < H.length := by omega
              have e := hsame q hq1 hql
              rw [List.getElem?_eq_getElem hqh] at e
              rw [HM.at_ hqh, Option.some.inj e]
            have y0 : (0 : Int) ≤ (q : Int) := by omega
            have y1 : (q : Int) < (H.length : Int) := by omega
            have y2 : (q : Int) ≤ (r.b : Int) := by omega
            have y3 : (side * r.x != side * r.x) = false := by simp
            go_wp2
            go_quiet (fail)
            go_wp2
            go_roundw
            case rel => exact ⟨q + 1, _, by omega, by omega, by go_num, rfl⟩
            case measure => simp [intOf]; omega
          · have y2 : ¬ (q : Int) ≤ (r.b : Int) := by omega
            go_wp2
            go_roundw
            case rel => exact ⟨j + 1 + 1, by omega, by go_num, by rw [hss]; go_num, hown, HM.drewN _, HX.drewN _⟩
            case measure => simp [intOf]; omega
    · obtain rfl : j = rs.length := by omega
      have m1 := HM.h0
      rw [hsl]
      have y3 : ((H.length : Int) == (H.length : Int)) = true := by simp
      go_wp2
      go_ret
      exact ⟨rfl, HX⟩
end Go.Proofs.Ytblcgfmgfepajaa
