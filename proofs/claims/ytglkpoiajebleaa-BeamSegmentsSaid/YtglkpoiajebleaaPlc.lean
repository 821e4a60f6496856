/- DERIVED. Contracts of package beam: the errors of groups, and Place of what is not proper. -/
import Derived.Test.YtglkpoiajebleaaGps
namespace Go.Proofs.Ytglkpoiajebleaa
open Go.RowKit

open Classical in
/-- The error of a group. -/
noncomputable def gE (l : List Nt) (f k : Int) : Int := if f < 0 ∨ k ≤ f ∨ (l.length : Int) ≤ k then 2 else if ∃ i, ∃ h : i < l.length, f ≤ (i : Int) ∧ (i : Int) ≤ k ∧ l[i].fl = 0 then 10 else 0

theorem checkGroup_all {w : World} {A : Option Addr} {l : List Nt} (c : Nat) (h : NotesAt w A l) (hl : l.length ≤ 128) (hcap : l.length ≤ c) (f k : Int) :
    Calls Try.prog 29 #[.slice A l.length c, grpV f k] w fun e w' => e = .returned (.int .i64 (gE l f k)) ∧ Only [] w w' := by
  by_cases hb : f < 0 ∨ k ≤ f ∨ (l.length : Int) ≤ k
  · have e : gE l f k = 2 := by unfold gE; rw [if_pos hb]
    rw [e]
    exact checkGroup_bad w A l.length c f k hb
  · obtain ⟨F, rfl⟩ := Int.eq_ofNat_of_zero_le (show 0 ≤ f by omega)
    obtain ⟨K, rfl⟩ := Int.eq_ofNat_of_zero_le (show 0 ≤ k by omega)
    refine (checkGroup_any c h hl hcap F K (by omega) (by omega)).mono ?_
    rintro e w' ⟨⟨he, ha⟩ | ⟨he, i, hi, h1, h2, h3⟩, ho⟩
    · refine ⟨?_, ho⟩
      rw [he]
      unfold gE
      rw [if_neg hb, if_neg]
      rintro ⟨i, hi, h1, h2, h3⟩
      exact ha i hi (by omega) (by omega) h3
    · refine ⟨?_, ho⟩
      rw [he]
      unfold gE
      rw [if_neg hb, if_pos ⟨i, hi, by omega, by omega, h3⟩]

theorem gE_zero {l : List Nt} {f k : Int} (h : gE l f k = 0) : ∃ F K : Nat, f = F ∧ k = K ∧ F < K ∧ K < l.length ∧ ∀ i (hi : i < l.length), F ≤ i → i ≤ K → l[i].fl ≠ 0 := by
  unfold gE at h
  by_cases hb : f < 0 ∨ k ≤ f ∨ (l.length : Int) ≤ k
  · rw [if_pos hb] at h; omega
  · rw [if_neg hb] at h
    obtain ⟨F, rfl⟩ := Int.eq_ofNat_of_zero_le (show 0 ≤ f by omega)
    obtain ⟨K, rfl⟩ := Int.eq_ofNat_of_zero_le (show 0 ≤ k by omega)
    refine ⟨F, K, rfl, rfl, by omega, by omega, fun i hi h1 h2 h3 => ?_⟩
    rw [if_pos ⟨i, hi, by omega, by omega, h3⟩] at h
    omega
theorem gE_cases (l : List Nt) (f k : Int) : gE l f k = 0 ∨ gE l f k = 2 ∨ gE l f k = 10 := by
  unfold gE
  split
  · simp
  · split <;> simp

theorem ntE_next : ∀ (l : List Nt) (p : Option Int), ntE p l = 0 → ∀ i (h : i + 1 < l.length), l[i].t + l[i].len ≤ l[i + 1].t
  | [], _, _, i, h => absurd h (by simp)
  | [x], _, _, i, h => absurd h (by simp)
  | x :: y :: r, p, h0, i, h => by
    rw [ntE] at h0
    by_cases hx : x.Ok
    · rw [if_pos hx] at h0
      split at h0
      · omega
      · cases i with
        | zero =>
          rw [ntE] at h0
          by_cases hy : y.Ok
          · rw [if_pos hy] at h0
            split at h0
            · omega
            · rename_i hn
              simp only [List.getElem_cons_zero, List.getElem_cons_succ]
              apply Classical.byContradiction
              intro hc
              exact hn ⟨_, rfl, by omega⟩
          · rw [if_neg hy] at h0; omega
        | succ i =>
          have := ntE_next (y :: r) _ h0 i (by simpa using h)
          simpa using this
    · rw [if_neg hx] at h0; omega
theorem ntE_lt {l : List Nt} (h : ntE none l = 0) : ∀ (d i : Nat) (hd : i + d + 1 < l.length), l[i].t + l[i].len ≤ l[i + d + 1].t
  | 0, i, hd => ntE_next l none h i hd
  | d + 1, i, hd => by
    have h1 := ntE_lt h d i (by omega)
    have h2 := ntE_next l none h (i + d + 1) (by omega)
    have h3 := (ntE_ok l none h l[i + d + 1] (List.getElem_mem _)).c1
    have e : i + (d + 1) + 1 = i + d + 1 + 1 := by omega
    simp only [e]
    omega
theorem ntE_mono {l : List Nt} (h : ntE none l = 0) {i j : Nat} (hij : i < j) (hj : j < l.length) : l[i].t + l[i].len ≤ l[j].t := by
  obtain ⟨d, rfl⟩ : ∃ d, j = i + d + 1 := ⟨j - i - 1, by omega⟩
  exact ntE_lt h d i hj
theorem ntE_le {l : List Nt} (h : ntE none l = 0) {i j : Nat} (hij : i ≤ j) (hj : j < l.length) : l[i].t ≤ l[j].t := by
  rcases Nat.lt_or_ge i j with h1 | h1
  · have := ntE_mono h h1 hj
    have := (ntE_ok l none h l[i] (List.getElem_mem _)).c1
    omega
  · obtain rfl : i = j := by omega
    exact Int.le_refl _

/-- The first error of notes and a group. -/
noncomputable def plE (l : List Nt) (f k : Int) : Int := if ntE none l ≠ 0 then ntE none l else gE l f k

set_option maxRecDepth 20000 in
set_option maxHeartbeats 4000000 in
theorem Place_bad {w : World} {A : Option Addr} {l : List Nt} (c : Nat) (h : NotesAt w A l) (hl : l.length ≤ 128) (hcap : l.length ≤ c) (f k : Int) (up : Bool) (hb : plE l f k ≠ 0) :
    Calls Try.prog 16 #[.slice A l.length c, grpV f k, .bool up] w fun e w' => e = .returned (.tuple #[.agg #[.int .i64 0, .int .i64 0], .int .i64 (plE l f k)]) ∧ Only [] w w' := by
  have HN := Lib.hid fun w2 (o : Only [] w w2) => checkNotes_any c (h.only o) hl
  have HG := Lib.hid fun w2 (o : Only [] w w2) => checkGroup_all c (h.only o) hl hcap f k
  have O0 := Lib.hid (((Only.refl [] w).alloc (.cells #[.int .i64 f, .int .i64 k] 40)).alloc (.cells #[.int .i64 0, .int .i64 0] 54))
  have BB := Lib.hid ((Blk.new w 40 [.int .i64 f, .int .i64 k]).alloc (.cells #[.int .i64 0, .int .i64 0] 54))
  have BL := Lib.hid (Blk.new (w.alloc (.cells #[.int .i64 f, .int .i64 k] 40)) 54 [.int .i64 0, .int .i64 0])
  have es : (w.alloc (.cells #[.int .i64 f, .int .i64 k] 40)).heap.size = w.heap.size + 1 := by simp
  rw [es] at BL
  clear es
  unfold plE at hb ⊢
  obtain ⟨r, hr⟩ : ∃ r, ntE none l = r := ⟨_, rfl⟩
  obtain ⟨g, hg⟩ : ∃ g, gE l f k = g := ⟨_, rfl⟩
  rw [hr] at HN hb ⊢
  rw [hg] at HG hb ⊢
  clear hr hg h hcap
  by_cases h0 : r = 0
  · subst h0
    rw [if_neg (by simp)] at hb ⊢
    go_enter Try.func16, Try.ntmps16
    go_wp2_with (first
      | (go_at_call 28; refine (HN.out _ O0.out).mono ?_; rintro e w1 ⟨rfl, o1⟩; have O1 := Lib.hid (O0.out.trans o1); have q0 := (BB.out.only o1 (by simp)).cell 0; have q1 := (BB.out.only o1 (by simp)).cell 1; have l0 := (BL.out.only o1 (by simp)).cell 0; have l1 := (BL.out.only o1 (by simp)).cell 1; have f0 := (BL.out.only o1 (by simp)).frozen 0; have f1 := (BL.out.only o1 (by simp)).frozen 1; simp only [List.getElem?_cons_zero, List.getElem?_cons_succ] at q0 q1 l0 l1)
      | (go_at_call 29; refine (HG.out _ O1.out).mono ?_; rintro e w2 ⟨rfl, o2⟩; have O2 := Lib.hid (O1.out.trans o2); have B2 := Lib.hid (BL.out.only (o1.trans o2) (by simp)); have l0 := B2.out.cell 0; have l1 := B2.out.cell 1; have f0 := B2.out.frozen 0; have f1 := B2.out.frozen 1; simp only [List.getElem?_cons_zero, List.getElem?_cons_succ] at l0 l1))
    have B9 := (B2.out.set_ 0 (.int .i64 0)).set_ 1 (.int .i64 0)
    have c0 := B9.cell 0
    have c1 := B9.cell 1
    simp only [List.set_cons_zero, List.set_cons_succ, List.getElem?_cons_zero, List.getElem?_cons_succ] at c0 c1
    refine bodyPost_ret (v := .tuple #[.agg #[.int .i64 0, .int .i64 0], .int .i64 g]) (by simp [results, Try.results16, go_sem, c0, c1]) rfl ⟨rfl, ?_⟩
    exact (O2.out.setCell (p := ⟨w.heap.size + 1, 0, none⟩) (.inr (by simp)) _).setCell (p := ⟨w.heap.size + 1, 1, none⟩) (.inr (by simp)) _
  · rw [if_pos h0]
    clear hb
    go_enter Try.func16, Try.ntmps16
    go_wp2_with (first
      | (go_at_call 28; refine (HN.out _ O0.out).mono ?_; rintro e w1 ⟨rfl, o1⟩; have O1 := Lib.hid (O0.out.trans o1); have B1 := Lib.hid (BL.out.only o1 (by simp)); have l0 := (BL.out.only o1 (by simp)).cell 0; have l1 := (BL.out.only o1 (by simp)).cell 1; have f0 := (BL.out.only o1 (by simp)).frozen 0; have f1 := (BL.out.only o1 (by simp)).frozen 1; simp only [List.getElem?_cons_zero, List.getElem?_cons_succ] at l0 l1))
    have B9 := (B1.out.set_ 0 (.int .i64 0)).set_ 1 (.int .i64 0)
    have c0 := B9.cell 0
    have c1 := B9.cell 1
    simp only [List.set_cons_zero, List.set_cons_succ, List.getElem?_cons_zero, List.getElem?_cons_succ] at c0 c1
    refine bodyPost_ret (v := .tuple #[.agg #[.int .i64 0, .int .i64 0], .int .i64 r]) (by simp [results, Try.results16, go_sem, c0, c1]) rfl ⟨rfl, ?_⟩
    exact (O1.out.setCell (p := ⟨w.heap.size + 1, 0, none⟩) (.inr (by simp)) _).setCell (p := ⟨w.heap.size + 1, 1, none⟩) (.inr (by simp)) _
end Go.Proofs.Ytglkpoiajebleaa
