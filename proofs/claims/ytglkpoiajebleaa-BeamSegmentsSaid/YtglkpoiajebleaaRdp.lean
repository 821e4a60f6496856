/- DERIVED. BeamReads: the plain law: how many beams cover a note. -/
import Derived.Test.YtglkpoiajebleaaSgs
import Derived.Test.YtglkpoiajebleaaFlc
import Derived.Test.YtglkpoiajebleaaBgp
namespace Go.Proofs.Ytglkpoiajebleaa
open Go.RowKit

theorem cntS_cons (x : Sg) (l : List Sg) (p : Int) : cntS (x :: l) p = (if x.f ≤ p ∧ p ≤ x.k then 1 else 0) + cntS l p := by
  have e := cntS_snoc
  unfold cntS
  rw [List.countP_cons]
  by_cases h : x.f ≤ p ∧ p ≤ x.k
  · simp [h]; omega
  · simp [h]
theorem cntS_app (a b : List Sg) (p : Int) : cntS (a ++ b) p = cntS a p + cntS b p := by
  unfold cntS
  rw [List.countP_append]
  push_cast
  rfl
theorem segF_cnt {C : Nat → Bool} {H : Nat → Nat → Int} {fl : Nat → Int} {k : Int} {n : Nat} (hC : ∀ j, C j = true → k ≤ fl (j + 1)) :
    ∀ f i, n ≤ i + f → (∀ p : Nat, i ≤ p → p < n → cntS (segF C H fl k n f i) p = if k ≤ fl p then 1 else 0) ∧ (∀ p : Nat, p < i → cntS (segF C H fl k n f i) p = 0)
  | 0, i, h => ⟨fun p h1 h2 => by omega, fun p _ => rfl⟩
  | f + 1, i, h => by
    unfold segF
    by_cases hi : i < n
    · rw [if_pos hi]
      by_cases hf : fl i < k
      · rw [if_pos hf]
        have ih := segF_cnt (H := H) (n := n) hC f (i + 1) (by omega)
        refine ⟨fun p h1 h2 => ?_, fun p h1 => ih.2 p (by omega)⟩
        rcases Nat.lt_or_ge i p with h3 | h3
        · exact ih.1 p h3 h2
        · obtain rfl : p = i := by omega
          rw [ih.2 p (by omega), if_neg (by omega)]
      · rw [if_neg hf]
        have hk := runK_le C n n i
        have hk2 := hk.2 hi
        obtain ⟨e, he⟩ : ∃ e, runK C n n i = e := ⟨_, rfl⟩
        have hJ := runK_J C n n i
        rw [he] at hk hk2 hJ ⊢
        have ih := segF_cnt (H := H) (n := n) hC f (e + 1) (by omega)
        refine ⟨fun p h1 h2 => ?_, fun p h1 => ?_⟩
        · rw [cntS_cons]
          dsimp only
          rcases Nat.lt_or_ge e p with h3 | h3
          · rw [if_neg (by omega), ih.1 p h3 h2]; omega
          · rw [if_pos (by omega), ih.2 p (by omega), if_pos]
            · rfl
            · rcases Nat.lt_or_ge i p with h4 | h4
              · obtain ⟨j, rfl⟩ : ∃ j, p = j + 1 := ⟨p - 1, by omega⟩
                exact hC j (hJ j (by omega) (by omega))
              · obtain rfl : p = i := by omega
                omega
        · rw [cntS_cons]
          dsimp only
          rw [if_neg (by omega), ih.2 p (by omega)]; rfl
    · rw [if_neg hi]
      exact ⟨fun p h1 h2 => by omega, fun p _ => rfl⟩
theorem segF_ok {C : Nat → Bool} {H : Nat → Nat → Int} {fl : Nat → Int} {k : Int} {n : Nat} :
    ∀ f i, ∀ x ∈ segF C H fl k n f i, x.lv = k ∧ (i : Int) ≤ x.f ∧ x.f ≤ x.k ∧ x.k < n
  | 0, i, x, hx => by simp [segF] at hx
  | f + 1, i, x, hx => by
    unfold segF at hx
    by_cases hi : i < n
    · rw [if_pos hi] at hx
      have hk := runK_le C n n i
      have hk2 := hk.2 hi
      by_cases hf : fl i < k
      · rw [if_pos hf] at hx
        have := segF_ok f (i + 1) x hx
        omega
      · rw [if_neg hf] at hx
        rcases List.mem_cons.1 hx with rfl | hx
        · dsimp only; omega
        · have := segF_ok f _ x hx
          omega
    · rw [if_neg hi] at hx; simp at hx
theorem segsTo_cnt (m : Met) (gs : List Int) (off : Int) (l : List Nt) (F K : Nat) (p : Nat) (h1 : F ≤ p) (h2 : p ≤ K) (h0 : 0 ≤ (ntAt l p).fl) : ∀ kk : Nat, cntS (segsTo m gs off l F K kk) p = min (kk : Int) (ntAt l p).fl
  | 0 => by
    have : cntS (segsTo m gs off l F K 0) p = 0 := rfl
    rw [this]; omega
  | kk + 1 => by
    rw [segsTo, cntS_app, segsTo_cnt m gs off l F K p h1 h2 h0 kk]
    unfold segK
    have hc := (segF_cnt (C := goesOn m gs off l ((kk : Int) + 1)) (H := hookE m gs off l F K) (fl := fun i => (ntAt l i).fl) (k := (kk : Int) + 1) (n := K + 1) (fun j hj => by
      unfold goesOn at hj
      simp only [Bool.and_eq_true, decide_eq_true_eq] at hj
      exact hj.1) (K + 1) F (by omega)).1 p h1 (by omega)
    rw [hc]
    split <;> omega
theorem segsTo_ok (m : Met) (gs : List Int) (off : Int) (l : List Nt) (F K : Nat) : ∀ kk : Nat, ∀ x ∈ segsTo m gs off l F K kk, 1 ≤ x.lv ∧ x.lv ≤ kk ∧ (F : Int) ≤ x.f ∧ x.f ≤ x.k ∧ x.k ≤ K
  | 0, x, hx => by simp [segsTo] at hx
  | kk + 1, x, hx => by
    rw [segsTo] at hx
    rcases List.mem_append.1 hx with hx | hx
    · have := segsTo_ok m gs off l F K kk x hx; omega
    · unfold segK at hx
      have := segF_ok _ _ x hx
      omega
theorem mostTo_ge (l : List Nt) (F : Nat) : ∀ j i, i < j → (ntAt l (F + i)).fl ≤ mostTo l F j
  | 0, i, h => absurd h (by omega)
  | j + 1, i, h => by
    rw [mostTo]
    rcases Nat.lt_or_ge i j with h1 | h1
    · have := mostTo_ge l F j i h1; omega
    · obtain rfl : i = j := by omega
      omega
theorem reads_cnt (m : Met) (gs : List Int) (off : Int) (l : List Nt) (F K : Nat) (hFK : F ≤ K) (hfl : ∀ i, 0 ≤ (ntAt l i).fl ∧ (ntAt l i).fl ≤ 6) (i : Nat) (hi : i < K - F + 1) : cntS (segsTo m gs off l F K (mostTo l F (K - F + 1)).toNat) ((F : Int) + i) = (ntAt l (F + i)).fl := by
  have h := segsTo_cnt m gs off l F K (F + i) (by omega) (by omega) (hfl _).1 (mostTo l F (K - F + 1)).toNat
  have h2 := mostTo_ge l F (K - F + 1) i hi
  have h3 := mostTo_rng (F := F) hfl (K - F + 1)
  rw [show ((F : Int) + i) = ((F + i : Nat) : Int) by omega, h]
  omega
theorem sCells_get : ∀ (l : List Sg) (i : Nat) (hi : i < l.length) (k : Nat), k < 4 → (sCells l)[i * 4 + k]? = (l[i].vs)[k]?
  | [], i, hi, _, _ => absurd hi (by simp)
  | x :: r, 0, _, k, hk => by
    have e : sCells (x :: r) = x.vs ++ sCells r := rfl
    rw [e, Nat.zero_mul, Nat.zero_add, List.getElem?_append_left (by exact hk)]
    rfl
  | x :: r, i + 1, hi, k, hk => by
    have e : sCells (x :: r) = x.vs ++ sCells r := rfl
    rw [e, List.getElem?_append_right (by show x.vs.length ≤ _; have : x.vs.length = 4 := rfl; omega), show (i + 1) * 4 + k - x.vs.length = i * 4 + k by have : x.vs.length = 4 := rfl; omega]
    exact sCells_get r i (by simpa using hi) k hk
theorem own_segs {w : World} {base n : Nat} {v : Value} {l : List Sg} (h : w.ownsRow base 49 4 v n (sCells l)) :
    ∃ A c, v = .slice A l.length c ∧ l.length = n ∧ l.length ≤ c ∧ SegsAt w A l := by
  have hl : l.length = n := by have := h.1; rw [sCells_len] at this; omega
  subst hl
  rcases h.2 with ⟨hv, hn⟩ | ⟨g, cap, cur, rfl, hb, hg, h1, h2, h3, hr⟩
  · exact ⟨none, 0, by rw [hv, hn], rfl, by omega, fun i hi => absurd hi (by omega)⟩
  · refine ⟨_, _, rfl, rfl, h1, fun i hi => ⟨g, 0, rfl, (h.lt g rfl).2, fun k hk => ?_⟩⟩
    rw [Nat.zero_add, h.cellAt _ (by omega)]
    exact sCells_get l i hi k hk
end Go.Proofs.Ytglkpoiajebleaa
