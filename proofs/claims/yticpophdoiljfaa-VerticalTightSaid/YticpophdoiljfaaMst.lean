/- DERIVED. Vertical: the statements' distance. -/
import Derived.Test.YticpophdoiljfaaGrw
import Derived.Test.YticpophdoiljfaaClr
namespace Go.Proofs.Yticpophdoiljfaa
open Go.RowKit
attribute [local go_sem ↓] Go.wp_at_zero Go.wp_at_succ

/-- The distance, the first k columns told. -/
def mdTo (hb ha : List Int) (gap least : Int) : Nat → Int
  | 0 => least
  | c + 1 => max (mdTo hb ha gap least c) (ha.getD c 0 - -hb.getD c 0 + gap)
theorem mdTo_le (hb ha : List Int) (gap least : Int) : ∀ k, least ≤ mdTo hb ha gap least k ∧ (∀ c, c < k → ha.getD c 0 + hb.getD c 0 + gap ≤ mdTo hb ha gap least k) ∧ (mdTo hb ha gap least k = least ∨ ∃ c, c < k ∧ ha.getD c 0 + hb.getD c 0 + gap = mdTo hb ha gap least k)
  | 0 => ⟨Int.le_refl _, fun c hc => absurd hc (by omega), .inl rfl⟩
  | k + 1 => by
    obtain ⟨h1, h2, h3⟩ := mdTo_le hb ha gap least k
    rw [mdTo]
    refine ⟨by omega, fun c hc => ?_, ?_⟩
    · by_cases e : c = k
      · subst e; omega
      · have := h2 c (by omega)
        omega
    · by_cases e : mdTo hb ha gap least k < ha.getD k 0 - -hb.getD k 0 + gap
      · exact .inr ⟨k, by omega, by omega⟩
      · rcases h3 with h | ⟨c, hc, h⟩
        · exact .inl (by omega)
        · exact .inr ⟨c, by omega, by omega⟩
theorem mdTo_eq {hb ha : List Int} {n : Nat} (gap least : Int) (h1 : hb.length = n) (h2 : ha.length = n) (h0 : 1 ≤ n) : mdTo hb ha gap least n = max least (distM hb ha + gap) := by
  obtain ⟨a1, a2, a3⟩ := mdTo_le hb ha gap least n
  have hl : hb.length = ha.length := h1.trans h2.symm
  have hM := maxL_mem (l := sums hb ha) (by rw [sums_len hl]; omega)
  have g1 : distM hb ha + gap ≤ mdTo hb ha gap least n := by
    obtain ⟨i, hi, e⟩ := List.mem_iff_getElem.1 hM
    rw [sums_len hl] at hi
    rw [sums_get i hi (by omega)] at e
    have := a2 i (by omega)
    rw [getD_get hi, getD_get (show i < ha.length by omega)] at this
    unfold distM
    omega
  have g2 : mdTo hb ha gap least n ≤ max least (distM hb ha + gap) := by
    rcases a3 with h | ⟨c, hc, h⟩
    · omega
    · have : hb[c] + ha[c] ≤ distM hb ha := by
        have := maxL_ge (l := sums hb ha) (x := hb[c] + ha[c]) (by
          rw [← sums_get c (by omega) (by omega) (by rw [sums_len hl]; omega)]
          exact List.getElem_mem _)
        exact this
      rw [getD_get (show c < hb.length by omega), getD_get (show c < ha.length by omega)] at h
      omega
  omega

set_option maxRecDepth 20000 in
set_option maxHeartbeats 2000000 in
theorem distance_any {w : World} {n : Nat} {a b : StaffR} (hp : PairOK w n a b) (h1 : 1 ≤ n) (h8 : n ≤ 8) (gap least : Int) (g0 : 0 ≤ gap) (g1 : gap ≤ 65536) (l0 : 1 ≤ least) (l1 : least ≤ 65536) :
    Calls Try.prog 24 #[.agg #[.pointer (some ⟨a.sa, 0, none⟩), .pointer (some ⟨a.sb, 0, none⟩), .int .i64 a.v.part], .agg #[.pointer (some ⟨b.sa, 0, none⟩), .pointer (some ⟨b.sb, 0, none⟩), .int .i64 b.v.part], .int .i64 n, .int .i64 gap, .int .i64 least] w
      fun e w' => e = .returned (.int .i64 (distV a.v b.v gap least)) ∧ Only [] w w' := by
  have X := Lib.hid (((Only.refl [] w).alloc (.cells #[.pointer (some ⟨a.sa, 0, none⟩), .pointer (some ⟨a.sb, 0, none⟩), .int .i64 a.v.part] 50)).alloc (.cells #[.pointer (some ⟨b.sa, 0, none⟩), .pointer (some ⟨b.sb, 0, none⟩), .int .i64 b.v.part] 50))
  have y1 : ((w.alloc (.cells #[.pointer (some ⟨a.sa, 0, none⟩), .pointer (some ⟨a.sb, 0, none⟩), .int .i64 a.v.part] 50)).alloc (.cells #[.pointer (some ⟨b.sa, 0, none⟩), .pointer (some ⟨b.sb, 0, none⟩), .int .i64 b.v.part] 50)).cell? ⟨w.heap.size, 1, none⟩ = some (.pointer (some ⟨a.sb, 0, none⟩)) := ((Blk.new w 50 [.pointer (some ⟨a.sa, 0, none⟩), .pointer (some ⟨a.sb, 0, none⟩), .int .i64 a.v.part]).alloc _).cell 1
  have y2 : ((w.alloc (.cells #[.pointer (some ⟨a.sa, 0, none⟩), .pointer (some ⟨a.sb, 0, none⟩), .int .i64 a.v.part] 50)).alloc (.cells #[.pointer (some ⟨b.sa, 0, none⟩), .pointer (some ⟨b.sb, 0, none⟩), .int .i64 b.v.part] 50)).cell? ⟨w.heap.size + 1, 0, none⟩ = some (.pointer (some ⟨b.sa, 0, none⟩)) := by
    have := (Blk.new (w.alloc (.cells #[.pointer (some ⟨a.sa, 0, none⟩), .pointer (some ⟨a.sb, 0, none⟩), .int .i64 a.v.part] 50)) 50 [.pointer (some ⟨b.sa, 0, none⟩), .pointer (some ⟨b.sb, 0, none⟩), .int .i64 b.v.part]).cell 0
    rw [World.size_alloc] at this
    exact this
  have HP : Hid (PairOK ((w.alloc (.cells #[.pointer (some ⟨a.sa, 0, none⟩), .pointer (some ⟨a.sb, 0, none⟩), .int .i64 a.v.part] 50)).alloc (.cells #[.pointer (some ⟨b.sa, 0, none⟩), .pointer (some ⟨b.sb, 0, none⟩), .int .i64 b.v.part] 50)) n a b) := Lib.hid ⟨hp.below.only X.out (by simp) (by simp), hp.above.only X.out (by simp) (by simp), hp.lb, hp.la, hp.low⟩
  have DE := Lib.hid (show mdTo a.v.hb b.v.ha gap least n = distV a.v b.v gap least from mdTo_eq gap least hp.lb hp.la h1)
  have HL := Lib.hid (fun k => mdTo_le a.v.hb b.v.ha gap least k)
  clear hp
  go_enter Try.func24, Try.ntmps24
  go_wp2
  generalize hW : ((w.alloc (.cells #[.pointer (some ⟨a.sa, 0, none⟩), .pointer (some ⟨a.sb, 0, none⟩), .int .i64 a.v.part] 50)).alloc (.cells #[.pointer (some ⟨b.sa, 0, none⟩), .pointer (some ⟨b.sb, 0, none⟩), .int .i64 b.v.part] 50)) = W1 at *
  clear hW
  generalize hS : w.heap.size = SZ at *
  clear hS
  go_loopw [11, 12] (fun d i wr => ∃ c q : Nat, c ≤ n ∧ i = .int .i64 c ∧ d = .int .i64 (mdTo a.v.hb b.v.ha gap least c) ∧ wr = W1.drewN q) (fun _ i _ => n - (intOf i).toNat)
  case atStart => exact ⟨0, 0, by omega, rfl, rfl, rfl⟩
  case round =>
    obtain ⟨c, q, hc, rfl, rfl, rfl⟩ := hrel
    have hle := (HL.out c).1
    by_cases hlt : c < n
    · have hcb := sky_cell HP.out.lb hlt
      have hca := sky_cell HP.out.la hlt
      have r1 := HP.out.low.1 _ (List.getElem_mem hca)
      have r2 := HP.out.low.2 _ (List.getElem_mem hcb)
      have MD : Hid (mdTo a.v.hb b.v.ha gap least (c + 1) = max (mdTo a.v.hb b.v.ha gap least c) (b.v.ha[c] - -a.v.hb[c] + gap)) := Lib.hid (by rw [mdTo, getD_get hca, getD_get hcb])
      have hup : mdTo a.v.hb b.v.ha gap least c ≤ 200000 := by
        rcases (HL.out c).2.2 with h | ⟨p, hp, h⟩
        · omega
        · have hpb : p < a.v.hb.length := by omega
          have hpa : p < b.v.ha.length := by have := sky_cell HP.out.la (show p < n by omega); exact this
          rw [getD_get hpb, getD_get hpa] at h
          have := HP.out.low.1 _ (List.getElem_mem hpa)
          have := HP.out.low.2 _ (List.getElem_mem hpb)
          omega
      obtain ⟨lo, hlo⟩ : ∃ lo, -1 * a.v.hb[c] = lo := ⟨_, rfl⟩
      obtain ⟨hi, hhi⟩ : ∃ hi, 1 * b.v.ha[c] = hi := ⟨_, rfl⟩
      have A1 := Lib.hid (fun i => height_is (HP.out.below.drewN i) hcb hlo)
      have A2 := Lib.hid (fun i => height_is (HP.out.above.drewN i) hca hhi)
      have e1 : b.v.ha[c] = hi := by omega
      have e2 : a.v.hb[c] = -lo := by omega
      rw [e1, e2] at MD
      have b1 : -8128 ≤ lo ∧ lo ≤ 0 := by omega
      have b2 : 0 ≤ hi ∧ hi ≤ 8128 := by omega
      clear hlo hhi r1 r2 e1 e2
      generalize mdTo a.v.hb b.v.ha gap least c = d at *
      have w1 : IntKind.i64.wrap (hi - lo) = hi - lo := IntWalk.i64_in _ (by omega)
      have w2 : IntKind.i64.wrap (hi - lo + gap) = hi - lo + gap := IntWalk.i64_in _ (by omega)
      obtain ⟨d2, hd2⟩ : ∃ d2, (if d < hi - lo + gap then hi - lo + gap else d) = d2 := ⟨_, rfl⟩
      have MD2 : Hid (mdTo a.v.hb b.v.ha gap least (c + 1) = d2) := Lib.hid (by rw [MD.out, ← hd2]; omega)
      clear MD
      go_wp2
      go_quiet ((first
        | (go_at_call 46; with_reducible exact quiet_addE (A1.out _))
        | (go_at_call 46; with_reducible exact quiet_addE (A2.out _))
        | (go_at_call 46; with_reducible exact Calls.quiet_of (A1.out _))
        | (go_at_call 46; with_reducible exact Calls.quiet_of (A2.out _))))
      go_wp2
      go_roundw
      case rel => exact ⟨c + 1, _, by omega, by go_num, by rw [MD2.out], rfl⟩
      case measure => simp [intOf]; omega
    · obtain rfl : c = n := by omega
      go_wp2
      go_ret
      exact ⟨ret_int DE.out, X.out.drewN _⟩
end Go.Proofs.Yticpophdoiljfaa
