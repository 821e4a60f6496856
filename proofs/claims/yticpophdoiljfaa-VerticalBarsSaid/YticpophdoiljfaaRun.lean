/- DERIVED. Vertical: runs of equal numbers: the plain words, and the contract of the iterator. -/
import Derived.RangeFuncNested
import Derived.RangeFuncBound
import Derived.RangeFuncCalls
import Derived.RangeFuncLeaves
import Derived.Shelf.Abstract
import Derived.Shelf.RegionOpen
import Derived.WalkKit
import Derived.OwnWalkIn
import Derived.TacticsInMore
import Derived.LoopNIn
import Derived.LoopIn
import Derived.Sort.BigQuietIn
import Derived.Lib.Hide
import Derived.Test.YticpophdoiljfaaProg
namespace Go.Proofs.Yticpophdoiljfaa
open Go.RowKit Go.Shelf
attribute [local go_sem] Oper.semAt_some

/-- The last index of the run of equal numbers in which i lies, from j on. -/
def runEnd (ps : List Int) (i : Nat) : Nat → Nat → Nat
  | 0, j => j
  | f + 1, j => if j + 1 < ps.length ∧ ps.getD (j + 1) 0 = ps.getD i 0 then runEnd ps i f (j + 1) else j
def endOf (ps : List Int) (i : Nat) : Nat := runEnd ps i ps.length i
theorem runEnd_eq (ps : List Int) (i k : Nat) (hs : ¬ (k + 1 < ps.length ∧ ps.getD (k + 1) 0 = ps.getD i 0)) : ∀ (f j d : Nat), j + d = k → d ≤ f → k < ps.length → (∀ q, j < q → q ≤ k → ps.getD q 0 = ps.getD i 0) → runEnd ps i f j = k
  | 0, j, d, h1, h2, _, _ => by rw [runEnd]; omega
  | f + 1, j, 0, h1, _, _, _ => by
    obtain rfl : j = k := by omega
    rw [runEnd, if_neg hs]
  | f + 1, j, d + 1, h1, h2, hk, h => by
    rw [runEnd, if_pos ⟨by omega, h (j + 1) (by omega) (by omega)⟩]
    exact runEnd_eq ps i k hs f (j + 1) d (by omega) (by omega) hk (fun q h3 h4 => h q (by omega) h4)
theorem endOf_eq {ps : List Int} {i k : Nat} (hik : i ≤ k) (hk : k < ps.length) (h : ∀ q, i < q → q ≤ k → ps.getD q 0 = ps.getD i 0) (hs : ¬ (k + 1 < ps.length ∧ ps.getD (k + 1) 0 = ps.getD i 0)) : endOf ps i = k :=
  runEnd_eq ps i k hs ps.length i (k - i) (by omega) (by omega) hk h
theorem runEnd_rng (ps : List Int) (i : Nat) : ∀ (f j : Nat), j < ps.length → j ≤ runEnd ps i f j ∧ runEnd ps i f j < ps.length
  | 0, j, h => ⟨Nat.le_refl _, h⟩
  | f + 1, j, h => by
    rw [runEnd]
    split
    · rename_i hc
      have := runEnd_rng ps i f (j + 1) hc.1
      omega
    · omega
/-- Where run number m begins. -/
def st (ps : List Int) : Nat → Nat
  | 0 => 0
  | m + 1 => endOf ps (st ps m) + 1
def run (ps : List Int) (m : Nat) : Nat × Nat := (st ps m, endOf ps (st ps m))
theorem st_le (ps : List Int) (m : Nat) (h : ∀ q, q < m → st ps q < ps.length) : st ps m ≤ ps.length := by
  cases m with
  | zero => simp [st]
  | succ m =>
    have := (runEnd_rng ps (st ps m) ps.length (st ps m) (h m (by omega))).2
    rw [st]
    unfold endOf
    omega
theorem st_ge (ps : List Int) : ∀ m, (∀ q, q < m → st ps q < ps.length) → m ≤ st ps m
  | 0, _ => Nat.zero_le _
  | m + 1, h => by
    have h1 := st_ge ps m (fun q hq => h q (by omega))
    have h2 := (runEnd_rng ps (st ps m) ps.length (st ps m) (h m (by omega))).1
    rw [st]
    unfold endOf
    omega
/-- All runs have come. -/
def AllRuns (ps : List Int) (xs : List (Nat × Nat)) : Prop := ∃ M, xs = (List.range M).map (run ps) ∧ st ps M = ps.length ∧ ∀ q, q < M → st ps q < ps.length

/-- Integers below a block. -/
def PAt (n₀ : Nat) (W : World) (A : Option Addr) (ps : List Int) : Prop := ∀ i (hi : i < ps.length), ∃ b off, A = some ⟨b, off, none⟩ ∧ b < n₀ ∧ W.cell? ⟨b, off + i, none⟩ = some (.int .i64 ps[i])
theorem PAt.below {n₀ : Nat} {W W' : World} {A : Option Addr} {ps : List Int} (h : PAt n₀ W A ps) (hb : Below n₀ W W') : PAt n₀ W' A ps := fun i hi => by
  obtain ⟨b, off, hA, h1, h2⟩ := h i hi
  exact ⟨b, off, hA, h1, (hb.cell (p := ⟨b, off + i, none⟩) h1).trans h2⟩
/-- What a round keeps. -/
def KeepR (n₀ Bn : Nat) (W W' : World) : Prop := Below n₀ W W' ∧ W'.heap[Bn]? = W.heap[Bn]?
theorem KeepR.trans {n₀ Bn : Nat} {A B C : World} (h : KeepR n₀ Bn A B) (k : KeepR n₀ Bn B C) : KeepR n₀ Bn A C := ⟨h.1.trans k.1, k.2.trans h.2⟩
abbrev RunN (N : Nat) := { x : Nat × Nat // x.1 < N ∧ x.2 < N }
abbrev encR {N : Nat} (x : RunN N) : Array Value := #[.int .i64 (x.1.1 : Int), .int .i64 (x.1.2 : Int)]
theorem grown_draw (W : World) (q : Nat) : W.grownBy (W.drewN q) none := ⟨rfl, rfl, rfl, Nat.le_refl _, fun _ _ _ => rfl⟩

set_option maxRecDepth 100000 in
set_option maxHeartbeats 4000000 in
theorem runs1_in (n : Nat) (hn : 1 ≤ n) (l Bn n₀ : Nat) (A : Option Addr) (c : Nat) (ps : List Int) (h8 : ps.length ≤ 8) (J Jx : List (RunN ps.length) → World → Prop)
    (hd : ∀ pre W q, J pre W → J pre (W.drewN q))
    (hY : ∀ pre x W, J pre W → pre.length < ps.length → YieldAt Fence.wide (n - 1) Try.prog l (encR x) W fun e W' =>
      (e = .returned (.bool true) ∧ J (pre ++ [x]) W' ∧ KeepR n₀ Bn W W') ∨ (e = .returned (.bool false) ∧ Jx (pre ++ [x]) W'))
    (W : World) (hbox : Boxed W Bn 22 (.slice A ps.length c)) (hP : PAt n₀ W A ps) (h0 : J [] W) :
    CallsIn Fence.wide n Try.prog 60 #[.func (.yield l) #[] #[], .pointer (some ⟨Bn, 0, none⟩)] W fun e W' => (∃ v, e = .returned v) ∧
      ((∃ xs, AllRuns ps (xs.map (·.1)) ∧ J xs W') ∨ (∃ pre, True ∧ Jx pre W')) := by
  have HD := Lib.hid hd
  have HY := Lib.hid hY
  clear hd hY
  refine callsIn_of_wp Try.func60 rfl trivial ?_ rfl
  simp only [Try.ntmps60, List.size_toArray, List.length_cons, List.length_nil, Nat.reduceAdd, Nat.reduceSub, Array.replicate_succ, Array.replicate_zero, List.push_toArray, List.append_toArray, List.nil_append, List.cons_append]
  have HBX := Lib.hid hbox
  have HPA := Lib.hid hP
  clear hbox hP
  gi_wp2
  gi_loopw [3] (fun i wr => ∃ (m : Nat) (pre : List (RunN ps.length)), i = .int .i64 (st ps m : Nat) ∧ Hid (pre.map (·.1) = (List.range m).map (run ps)) ∧ (∀ q, q < m → st ps q < ps.length) ∧ J pre wr ∧ Boxed wr Bn 22 (.slice A ps.length c) ∧ PAt n₀ wr A ps) (fun i _ => ps.length - (intOf i).toNat)
  case atStart => exact ⟨0, [], rfl, Lib.hid rfl, fun q hq => absurd hq (by omega), h0, HBX.out, HPA.out⟩
  case round =>
    obtain ⟨m, pre, rfl, hpre, hst, hJ, hB, hP⟩ := hrel
    have HST := Lib.hid hst
    have HJ := Lib.hid hJ
    have HB := Lib.hid hB
    have HP := Lib.hid hP
    have hm1 := st_le ps m hst
    have hm2 := st_ge ps m hst
    have hc := hB.cell
    clear hst hJ hB hP
    by_cases hlt : st ps m < ps.length
    · obtain ⟨s, hs⟩ : ∃ s, st ps m = s := ⟨_, rfl⟩
      have HS := Lib.hid hs
      rw [hs] at hm1 hm2 hlt ⊢
      clear hs
      gi_wp2
      gi_loopw [4] (fun k wr2 => ∃ (k' q : Nat), k = .int .i64 k' ∧ s ≤ k' ∧ k' < ps.length ∧ Hid (∀ r, s < r → r ≤ k' → ps.getD r 0 = ps.getD s 0) ∧ wr2 = wr.drewN q) (fun k _ => ps.length - (intOf k).toNat)
      case atStart => exact ⟨s, 0, rfl, Nat.le_refl _, hlt, Lib.hid (fun r h1 h2 => absurd h2 (by omega)), rfl⟩
      case round =>
        obtain ⟨k, q, rfl, hk1, hk2, HEQ, rfl⟩ := hrel
        obtain ⟨b, off, rfl, hb, hcs⟩ := HP.out s hlt
        have k0 : (0 : Int) ≤ (k : Int) + 1 := by omega
        have k3 : IntKind.i64.wrap ((k : Int) + 1) = (k : Int) + 1 := IntWalk.i64_in _ (by omega)
        have k4 : ((k : Int) + 1).toNat = k + 1 := by omega
        have s0 : (0 : Int) ≤ (s : Int) := by omega
        have s1 : (s : Int) < (ps.length : Int) := by omega
        have G0 := Lib.hid (show ps.getD s 0 = ps[s] by simp [List.getD, hlt])
        by_cases hk : k + 1 < ps.length
        · obtain ⟨b', off', hA, hb', hck⟩ := HP.out (k + 1) hk
          simp only [Option.some.injEq, Addr.mk.injEq, and_true] at hA
          obtain ⟨rfl, rfl⟩ := hA
          have k5 : (k : Int) + 1 < (ps.length : Int) := by omega
          have k6 : decide ((k : Int) + 1 < (ps.length : Int)) = true := by simp; omega
          have G1 := Lib.hid (show ps.getD (k + 1) 0 = ps[k + 1] by simp [List.getD, hk])
          obtain ⟨x0, hx0⟩ : ∃ v, ps[s] = v := ⟨_, rfl⟩
          obtain ⟨x1, hx1⟩ : ∃ v, ps[k + 1] = v := ⟨_, rfl⟩
          rw [hx0] at hcs G0
          rw [hx1] at hck G1
          clear hx0 hx1
          by_cases hx : x1 = x0
          · subst hx
            gi_wp2
            gi_big_quiet_th (fail)
            gi_wp2
            go_roundw
            case rel =>
              refine ⟨k + 1, _, by go_num, by omega, hk, Lib.hid (fun r h1 h2 => ?_), rfl⟩
              by_cases e : r = k + 1
              · subst e; rw [G0.out, G1.out]
              · exact HEQ.out r h1 (by omega)
            case measure => simp [intOf]; omega
          · have hx' : (x1 == x0) = false := by simpa using hx
            have NST := Lib.hid (show ¬ (k + 1 < ps.length ∧ ps.getD (k + 1) 0 = ps.getD s 0) from fun hh => hx (by have := hh.2; rw [G0.out, G1.out] at this; exact this))
            clear hx
            gi_wp2
            gi_big_quiet_th (fail)
            obtain ⟨W2, hW2⟩ : ∃ W2, (wr.drewN q).drewN nq = W2 := ⟨_, rfl⟩
            have hJ2 : J pre W2 := by rw [← hW2]; exact HD.out _ _ _ (HD.out _ _ _ HJ.out)
            have HK2 := Lib.hid (show KeepR n₀ Bn wr W2 by rw [← hW2]; exact ⟨⟨rfl, rfl, rfl, Nat.le_refl _, fun _ _ => rfl⟩, rfl⟩)
            obtain ⟨fn, tmps, assign, body, hy, hR⟩ := HY.out pre ⟨(s, k), ⟨hlt, hk2⟩⟩ W2 hJ2 (by have := congrArg List.length hpre.out; simp at this; omega)
            dsimp only [encR] at hy
            try rw [hW2]
            have HEND := Lib.hid (show endOf ps s = k from endOf_eq hk1 hk2 HEQ.out NST.out)
            gi_wp2
            try rw [hW2]
            refine hR.mono ?_
            rintro e W3 (⟨rfl, hJ3, hk3⟩ | ⟨rfl, hJx3⟩)
            · have HK3 := Lib.hid (HK2.out.trans hk3)
              have HJ3 := Lib.hid hJ3
              clear hk3 hJ3 hJ2 hW2
              gi_wp2
              go_roundw
              case rel =>
                refine ⟨m + 1, pre ++ [⟨(s, k), ⟨hlt, hk2⟩⟩], ?_, Lib.hid ?_, fun r hr => ?_, HJ3.out, HK3.out.2.trans HB.out, HP.out.below HK3.out.1⟩
                · rw [st, HS.out, HEND.out]; go_num
                · rw [List.map_append, hpre.out, List.range_succ, List.map_append, List.map_singleton, List.map_singleton, run, HS.out, HEND.out]
                · by_cases e : r = m
                  · subst e; rw [HS.out]; exact hlt
                  · exact HST.out r (by omega)
              case measure => simp [intOf]; omega
            · gi_wp2
              refine bodyPost_ret (results_none rfl _ _ _) rfl ?_
              exact ⟨⟨_, rfl⟩, .inr ⟨_, trivial, hJx3⟩⟩
        · have k6 : decide ((k : Int) + 1 < (ps.length : Int)) = false := by simp; omega
          have NST := Lib.hid (show ¬ (k + 1 < ps.length ∧ ps.getD (k + 1) 0 = ps.getD s 0) from fun hh => hk hh.1)
          gi_wp2
          gi_big_quiet_th (fail)
          obtain ⟨W2, hW2⟩ : ∃ W2, (wr.drewN q).drewN nq = W2 := ⟨_, rfl⟩
          have hJ2 : J pre W2 := by rw [← hW2]; exact HD.out _ _ _ (HD.out _ _ _ HJ.out)
          have HK2 := Lib.hid (show KeepR n₀ Bn wr W2 by rw [← hW2]; exact ⟨⟨rfl, rfl, rfl, Nat.le_refl _, fun _ _ => rfl⟩, rfl⟩)
          obtain ⟨fn, tmps, assign, body, hy, hR⟩ := HY.out pre ⟨(s, k), ⟨hlt, hk2⟩⟩ W2 hJ2 (by have := congrArg List.length hpre.out; simp at this; omega)
          dsimp only [encR] at hy
          try rw [hW2]
          have HEND := Lib.hid (show endOf ps s = k from endOf_eq hk1 hk2 HEQ.out NST.out)
          gi_wp2
          try rw [hW2]
          refine hR.mono ?_
          rintro e W3 (⟨rfl, hJ3, hk3⟩ | ⟨rfl, hJx3⟩)
          · have HK3 := Lib.hid (HK2.out.trans hk3)
            have HJ3 := Lib.hid hJ3
            clear hk3 hJ3 hJ2 hW2
            gi_wp2
            go_roundw
            case rel =>
              refine ⟨m + 1, pre ++ [⟨(s, k), ⟨hlt, hk2⟩⟩], ?_, Lib.hid ?_, fun r hr => ?_, HJ3.out, HK3.out.2.trans HB.out, HP.out.below HK3.out.1⟩
              · rw [st, HS.out, HEND.out]; go_num
              · rw [List.map_append, hpre.out, List.range_succ, List.map_append, List.map_singleton, List.map_singleton, run, HS.out, HEND.out]
              · by_cases e : r = m
                · subst e; rw [HS.out]; exact hlt
                · exact HST.out r (by omega)
            case measure => simp [intOf]; omega
          · gi_wp2
            refine bodyPost_ret (results_none rfl _ _ _) rfl ?_
            exact ⟨⟨_, rfl⟩, .inr ⟨_, trivial, hJx3⟩⟩
    · have hm3 : ps.length ≤ st ps m := by omega
      gi_wp2
      go_end0
      exact ⟨⟨_, rfl⟩, .inl ⟨pre, ⟨m, hpre.out, by omega, HST.out⟩, HJ.out⟩⟩
end Go.Proofs.Yticpophdoiljfaa
