/- DERIVED. The statements' play: a skyline and its model, of the same heights, behind any operations. -/
import Derived.Test.YtblcgfmgfepajaaPlay
namespace Go.Proofs.Ytblcgfmgfepajaa
open Go.RowKit

/-- An operation's numbers. -/
structure OpR where
  kd : Int
  a : Int
  b : Int
  c : Int
  d : Int
  e : Int
  l : Int
  bb : Int
  r : Int
  t : Int
def OpR.cells (o : OpR) : List Value := [.int .u8 o.kd, .int .i64 o.a, .int .i64 o.b, .int .i64 o.c, .int .i64 o.d, .int .i64 o.e, .int .i64 o.l, .int .i64 o.bb, .int .i64 o.r, .int .i64 o.t]
def OpR.do_ (side : Int) (h : List Int) (o : OpR) : List Int := doH side h o.kd o.a o.b o.c o.d o.e o.bb o.t

/-- A slice of operations that came in. -/
structure OpsAt (w : World) (A : Option Addr) (ops : List OpR) : Prop where
  at_ : ∀ i (hi : i < ops.length), ∃ b off, A = some ⟨b, off, none⟩ ∧ b < w.heap.size ∧ ∀ j v, (ops[i]).cells[j]? = some v → w.cell? ⟨b, off + i * 10 + j, none⟩ = some v
  kds : ∀ i (hi : i < ops.length), 0 ≤ ops[i].kd ∧ ops[i].kd ≤ 255
  few : ops.length ≤ 9223372036854775807

/-- The heights behind the first k operations. -/
def playTo (side : Int) (h : List Int) (ops : List OpR) (k : Nat) : List Int := (ops.take k).foldl (OpR.do_ side) h
theorem playTo_succ (side : Int) (h : List Int) (ops : List OpR) (k : Nat) (hk : k < ops.length) : playTo side h ops (k + 1) = (ops[k]).do_ side (playTo side h ops k) := by
  unfold playTo
  rw [take_snoc _ _ hk, List.foldl_append]
  rfl

/-- What play gives. -/
def Played (w : World) (side : Int) (h : List Int) (e : Ending) (w' : World) : Prop :=
  ∃ s g m k cap sp, e = .returned (.tuple #[.pointer (some ⟨s, 0, none⟩), .pointer (some ⟨m, 0, none⟩)]) ∧ w.heap.size ≤ s ∧ w.heap.size ≤ g ∧ w.heap.size ≤ m ∧ w.heap.size ≤ k ∧
    Both w' s g m k cap sp side h ∧ Only [] w w'

set_option maxHeartbeats 2000000 in
theorem play_any (bl : Bool) (c hh : Int) (hc0 : 0 ≤ c) (hc1 : c ≤ 255) (hr : -32768 ≤ hh ∧ hh ≤ 32767) (w : World) (A : Option Addr) (cp : Nat) (ops : List OpR) (ho : OpsAt w A ops) :
    Calls Try.prog 23 #[startV bl c hh, .slice A ops.length cp] w
      fun e w' => Played w (if bl then -1 else 1) (playTo (if bl then -1 else 1) (newH (if bl then -1 else 1) (1 + c.toNat % 40) hh) ops 20) e w' := by
  have hlen := ho.few
  generalize hside : (if bl then (-1 : Int) else 1) = side
  have HB := Lib.hid (fun W => begin_any bl c hh hc0 hc1 hr W)
  rw [hside] at HB
  generalize hH : newH side (1 + c.toNat % 40) hh = h0
  rw [hH] at HB
  have HSide := Lib.hid hside
  have HH := Lib.hid hH
  clear hside hH
  go_enter Try.func23, Try.ntmps23
  go_wp2_with (go_at_call 20; refine (HB.out _).mono ?_; rintro e w1 ⟨s, g, m, k, cap, sp, rfl, hs, hg, hm, hk, hb, ho1⟩)
  have ho1' : Only [] w w1 := ((Only.refl [] w).alloc _).trans ho1
  simp at hs hg hm hk
  have HS := Lib.hid hs
  have HG := Lib.hid hg
  have HM := Lib.hid hm
  have HK := Lib.hid hk
  clear hs hg hm hk ho1
  go_loopw [8] (fun i wr => ∃ j : Nat, j ≤ ops.length ∧ j ≤ 20 ∧ i = .int .i64 j ∧ Both wr s g m k cap sp side (playTo side h0 ops j) ∧ Only [] w wr) (fun i _ => 20 - (intOf i).toNat)
  case atStart => exact ⟨0, Nat.zero_le _, by omega, rfl, hb, ho1'⟩
  case round =>
    obtain ⟨j, hj, hj20, rfl, hbj, hoj⟩ := hrel
    clear hb ho1'
    by_cases hlt : j < ops.length
    · by_cases hlt2 : j < 20
      · obtain ⟨b, off, rfl, hbl, hcells⟩ := ho.at_ j hlt
        obtain ⟨o, hop⟩ : ∃ o, ops[j] = o := ⟨_, rfl⟩
        have hcw : ∀ i v, o.cells[i]? = some v → wr.cell? ⟨b, off + j * 10 + i, none⟩ = some v := fun i v hv => (hoj.cell (p := ⟨b, off + j * 10 + i, none⟩) hbl (by simp)).trans (hcells i v (by rw [hop]; exact hv))
        have hkd := ho.kds j hlt
        rw [hop] at hkd
        have x0 : wr.cell? ⟨b, off + j * 10, none⟩ = some (.int .u8 o.kd) := hcw 0 _ rfl
        have x1 := hcw 1 _ rfl
        have x2 := hcw 2 _ rfl
        have x3 := hcw 3 _ rfl
        have x4 := hcw 4 _ rfl
        have x5 := hcw 5 _ rfl
        have x6 := hcw 6 _ rfl
        have x7 := hcw 7 _ rfl
        have x8 := hcw 8 _ rfl
        have x9 := hcw 9 _ rfl
        have HOP := Lib.hid hop
        have j0 : (0 : Int) ≤ (j : Int) := by omega
        have j1 : (j : Int) < (ops.length : Int) := by omega
        clear hcw hcells hop ho
        go_wp2_with (go_at_call 42; refine (do_any hbj _ _ _ _ _ _ _ _ _ _ hkd.1).mono ?_; rintro e w2 ⟨rfl, hb2, ho2⟩)
        go_roundw
        case rel =>
          refine ⟨j + 1, by omega, by omega, by go_num, ?_, ?_⟩
          · rw [playTo_succ side h0 ops j hlt, HOP.out]
            exact hb2
          · refine ((hoj.more (T := [g, k]) (by simp)).trans ho2).less fun i hi hl => ?_
            have h1 := HG.out
            have h2 := HK.out
            simp at hi
            omega
        case measure => simp [intOf]; omega
      · obtain rfl : j = 20 := by omega
        go_wp2
        go_ret2
        have h1 := HS.out
        have h2 := HG.out
        have h3 := HM.out
        have h4 := HK.out
        exact ⟨s, g, m, k, cap, sp, rfl, by omega, by omega, by omega, by omega, hbj, hoj⟩
    · obtain rfl : j = ops.length := by omega
      go_wp2
      go_ret2
      have h1 := HS.out
      have h2 := HG.out
      have h3 := HM.out
      have h4 := HK.out
      refine ⟨s, g, m, k, cap, sp, rfl, by omega, by omega, by omega, by omega, ?_, hoj⟩
      have e : playTo side h0 ops 20 = playTo side h0 ops ops.length := by
        unfold playTo
        rw [List.take_of_length_le hj20, List.take_of_length_le (Nat.le_refl _)]
      rw [e]
      exact hbj
end Go.Proofs.Ytblcgfmgfepajaa
