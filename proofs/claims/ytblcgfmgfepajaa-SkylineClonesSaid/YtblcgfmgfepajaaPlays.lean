/- DERIVED. SkylinePlays, SkylineTouches: the walks. -/
import Derived.Test.YtblcgfmgfepajaaPlayB
import Derived.Test.YtblcgfmgfepajaaKnown
namespace Go.Proofs.Ytblcgfmgfepajaa
open Go.RowKit

theorem OpsAt.only {w w' : World} {A : Option Addr} {ops : List OpR} (ho : OpsAt w A ops) (h : Only [] w w') : OpsAt w' A ops := by
  refine ⟨fun i hi => ?_, ho.kds, ho.few⟩
  obtain ⟨b, off, hA, hb, hc⟩ := ho.at_ i hi
  exact ⟨b, off, hA, Nat.lt_of_lt_of_le hb h.size, fun j v hv => (h.cell (p := ⟨b, off + i * 10 + j, none⟩) hb (by simp)).trans (hc j v hv)⟩

set_option maxHeartbeats 2000000 in
theorem plays_any (bl : Bool) (c hh : Int) (hc0 : 0 ≤ c) (hc1 : c ≤ 255) (hr : -32768 ≤ hh ∧ hh ≤ 32767) (w : World) (A : Option Addr) (cp : Nat) (ops : List OpR) (ho : OpsAt w A ops) (x y : Int) :
    Calls Try.prog 6 #[startV bl c hh, .slice A ops.length cp, .agg #[.int .i64 x, .int .i64 y]] w
      fun e w' => e = .returned (.bool true) ∧ Only [] w w' := by
  generalize hside : (if bl then (-1 : Int) else 1) = side
  generalize hH : playTo side (newH side (1 + c.toNat % 40) hh) ops 20 = H
  have HP := Lib.hid (fun W hW => play_any bl c hh hc0 hc1 hr W A cp ops hW)
  rw [hside, hH] at HP
  clear hside hH
  have HO := Lib.hid ho
  have OB := Lib.hid (((Only.refl [] w).alloc (.cells #[.bool bl, .int .u8 c, .int .i16 hh] 35)).alloc (.cells #[.int .i64 x, .int .i64 y] 50))
  have s := (Blk.new w 35 [.bool bl, .int .u8 c, .int .i16 hh]).alloc (.cells #[.int .i64 x, .int .i64 y] 50)
  have t : Blk ((w.alloc (.cells #[.bool bl, .int .u8 c, .int .i16 hh] 35)).alloc (.cells #[.int .i64 x, .int .i64 y] 50)) (w.heap.size + 1) 50 [.int .i64 x, .int .i64 y] := by simpa using Blk.new (w.alloc (.cells #[.bool bl, .int .u8 c, .int .i16 hh] 35)) 50 [.int .i64 x, .int .i64 y]
  have SS := Lib.hid s
  have TT := Lib.hid t
  clear s t ho
  have hx0 : (0 : Int) ≤ 0 := by omega
  rcases colErr_cases H.length x y with ⟨h0, -, -, -⟩ | h0
  · have hcb := colB_true h0
    go_enter Try.func6, Try.ntmps6
    go_wp2_with (first
      | (go_at_call 13; refine (known_any _).mono ?_; rintro e w1 ⟨rfl, ho1⟩; have s := SS.out.only ho1 (by simp); have s0 := s.cell 0; have s1 := s.cell 1; have s2 := s.cell 2; simp at s0 s1 s2; have TT1 := TT.out.only ho1 (by simp))
      | (go_at_call 23; refine (HP.out _ ((HO.out.only OB.out).only ho1)).mono ?_; rintro e w2 ⟨s, g, m, k, cap, sp, rfl, hs, hg, hm, hk, hb, ho2⟩; have t := TT1.only ho2 (by simp); have t0 := t.cell 0; have t1 := t.cell 1; simp at t0 t1)
      | (go_at_call 26; refine (is_any hb).mono ?_; rintro e w' ⟨rfl, n, rfl⟩)
      | (go_at_call 16; refine (most_any (hb.sky.drewN _) _ _).mono ?_; rintro e w' ⟨rfl, n2, rfl⟩)
      | (go_at_call 27; refine (mcolumns_any (hb.mod.drewN _) _ _).mono ?_; rintro e w' ⟨rfl, rfl⟩)
      | (go_at_call 28; refine (mmost_any (hb.mod.drewN _) _ _ h0).mono ?_; rintro e w' ⟨rfl, n3, rfl⟩))
    go_ret
    exact ⟨rfl, ((OB.out.trans ho1).trans ho2).drewN _⟩
  · have hcb := colB_false h0
    have hm0 : mostV side H x y = 0 := by rw [mostV, if_neg (by omega)]
    go_enter Try.func6, Try.ntmps6
    go_wp2_with (first
      | (go_at_call 13; refine (known_any _).mono ?_; rintro e w1 ⟨rfl, ho1⟩; have s := SS.out.only ho1 (by simp); have s0 := s.cell 0; have s1 := s.cell 1; have s2 := s.cell 2; simp at s0 s1 s2; have TT1 := TT.out.only ho1 (by simp))
      | (go_at_call 23; refine (HP.out _ ((HO.out.only OB.out).only ho1)).mono ?_; rintro e w2 ⟨s, g, m, k, cap, sp, rfl, hs, hg, hm, hk, hb, ho2⟩; have t := TT1.only ho2 (by simp); have t0 := t.cell 0; have t1 := t.cell 1; simp at t0 t1)
      | (go_at_call 26; refine (is_any hb).mono ?_; rintro e w' ⟨rfl, n, rfl⟩)
      | (go_at_call 16; refine (most_any (hb.sky.drewN _) _ _).mono ?_; rintro e w' ⟨rfl, n2, rfl⟩)
      | (go_at_call 27; refine (mcolumns_any (hb.mod.drewN _) _ _).mono ?_; rintro e w' ⟨rfl, rfl⟩))
    go_ret
    exact ⟨rfl, ((OB.out.trans ho1).trans ho2).drewN _⟩
end Go.Proofs.Ytblcgfmgfepajaa
