/- DERIVED. Contracts of package beam: checkGroup. -/
import Derived.Test.YtglkpoiajebleaaNts
namespace Go.Proofs.Ytglkpoiajebleaa
open Go.RowKit
abbrev grpV (f k : Int) : Value := .agg #[.int .i64 f, .int .i64 k]

set_option maxRecDepth 20000 in
set_option maxHeartbeats 8000000 in
theorem checkGroup_bad (w : World) (A : Option Addr) (n c : Nat) (f k : Int) (h : f < 0 ∨ k ≤ f ∨ (n : Int) ≤ k) :
    Calls Try.prog 29 #[.slice A n c, grpV f k] w fun e w' => e = .returned (.int .i64 2) ∧ Only [] w w' := by
  by_cases h1 : f < 0
  · go_enter Try.func29, Try.ntmps29
    go_wp2
    go_ret
    exact ⟨rfl, (Only.refl _ _).alloc _⟩
  · by_cases h2 : k ≤ f
    · go_enter Try.func29, Try.ntmps29
      go_wp2
      go_ret
      exact ⟨rfl, (Only.refl _ _).alloc _⟩
    · have h3 : (n : Int) ≤ k := by omega
      go_enter Try.func29, Try.ntmps29
      go_wp2
      go_ret
      exact ⟨rfl, (Only.refl _ _).alloc _⟩

set_option maxRecDepth 20000 in
set_option maxHeartbeats 8000000 in
theorem checkGroup_any {w : World} {A : Option Addr} {l : List Nt} (c : Nat) (h : NotesAt w A l) (hl : l.length ≤ 128) (hcap : l.length ≤ c) (F K : Nat) (h1 : F < K) (h2 : K < l.length) :
    Calls Try.prog 29 #[.slice A l.length c, grpV F K] w fun e w' => (e = .returned (.int .i64 0) ∧ (∀ i (hi : i < l.length), F ≤ i → i ≤ K → l[i].fl ≠ 0) ∨ e = .returned (.int .i64 10) ∧ ∃ i, ∃ hi : i < l.length, F ≤ i ∧ i ≤ K ∧ l[i].fl = 0) ∧ Only [] w w' := by
  obtain ⟨b, off, rfl, hb, -⟩ := h 0 (by omega)
  have H := Lib.hid h
  clear h
  have f0 : (0 : Int) ≤ (F : Int) := by omega
  have f1 : ¬ (F : Int) < 0 := by omega
  have f2 : (F : Int) < (K : Int) := by omega
  have f3 : (K : Int) < (l.length : Int) := by omega
  have k1 : IntKind.i64.wrap ((K : Int) + 1) = (K : Int) + 1 := IntWalk.i64_in _ (by omega)
  have f4 : (F : Int) ≤ (K : Int) + 1 := by omega
  have f5 : (K : Int) + 1 ≤ (c : Int) := by omega
  have f6 : (0 : Int) ≤ (K : Int) + 1 := by omega
  obtain ⟨n, hn⟩ : ∃ n, K + 1 - F = n := ⟨_, rfl⟩
  go_enter Try.func29, Try.ntmps29
  go_wp2
  have O0 := Lib.hid ((Only.refl [] w).alloc (.cells #[.int .i64 (F : Int), .int .i64 (K : Int)] 40))
  have HN := Lib.hid hn
  clear hn f0 f1 f2 f3 f4 f5 f6 k1
  go_loopw [32] (fun i wr => ∃ j : Nat, j ≤ n ∧ i = .int .i64 j ∧ Hid (∀ r (hr : r < l.length), F ≤ r → r < F + j → l[r].fl ≠ 0) ∧ Only [] w wr) (fun i _ => n - (intOf i).toNat)
  case atStart => exact ⟨0, by omega, rfl, Lib.hid (fun r _ h1 h2 => absurd h2 (by omega)), O0.out⟩
  case round =>
    obtain ⟨j, hj, rfl, HA, hO⟩ := hrel
    by_cases hlt : j < n
    · have hF : F + j < l.length := by have := HN.out; omega
      obtain ⟨b', off', hA', hb', hcs⟩ := (H.out.only hO) (F + j) hF
      simp only [Option.some.injEq, Addr.mk.injEq, and_true] at hA'
      obtain ⟨rfl, rfl⟩ := hA'
      rw [show off + (F + j) * 6 = off + F * 6 + j * 6 by omega] at hcs
      have m0 := hcs 0 (by omega)
      have m1 := hcs 1 (by omega)
      have m2 := hcs 2 (by omega)
      have m3 := hcs 3 (by omega)
      have m4 := hcs 4 (by omega)
      have m5 := hcs 5 (by omega)
      simp only [Nt.vs, List.getElem?_cons_zero, List.getElem?_cons_succ, Nat.add_zero] at m0 m1 m2 m3 m4 m5
      clear hcs
      obtain ⟨x, hx⟩ : ∃ x, l[F + j] = x := ⟨_, rfl⟩
      rw [hx] at m0 m1 m2 m3 m4 m5
      have HX := Lib.hid hx
      have j0 : (0 : Int) ≤ (j : Int) := by omega
      have j1 : (j : Int) < (n : Int) := by omega
      clear hx
      by_cases cz : x.fl = 0
      · have CZ := Lib.hid cz
        have cz' : (x.fl == 0) = true := by simpa using cz
        clear cz
        go_wp2
        go_ret
        exact ⟨.inr ⟨rfl, F + j, hF, by omega, by have := HN.out; omega, by rw [HX.out]; exact CZ.out⟩, hO.alloc _⟩
      · have CZ := Lib.hid cz
        have cz' : (x.fl == 0) = false := by simpa using cz
        clear cz
        go_wp2
        go_roundw
        case rel =>
          refine ⟨j + 1, by omega, by go_num, Lib.hid (fun r hr h1 h2 => ?_), hO.alloc _⟩
          by_cases e : r = F + j
          · subst e; rw [HX.out]; exact CZ.out
          · exact HA.out r hr h1 (by omega)
        case measure => simp [intOf]; omega
    · obtain rfl : j = n := by omega
      go_wp2
      go_ret
      exact ⟨.inl ⟨rfl, fun i hi h1 h2 => HA.out i hi h1 (by have := HN.out; omega)⟩, hO⟩
end Go.Proofs.Ytglkpoiajebleaa
