/- DERIVED. BeamGroups: the plain law. -/
import Derived.Test.YtglkpoiajebleaaGpm
import Derived.Test.YtglkpoiajebleaaVok
namespace Go.Proofs.Ytglkpoiajebleaa
open Go.RowKit

theorem runK_congr {J J' : Nat → Bool} {n : Nat} (h : ∀ k, k + 1 < n → J k = J' k) : ∀ f k, runK J n f k = runK J' n f k
  | 0, _ => rfl
  | f + 1, k => by
    unfold runK
    by_cases hk : k + 1 < n
    · rw [h k hk, runK_congr h f]
    · rw [if_neg (by omega), if_neg (by omega)]
theorem grpF_congr {J J' : Nat → Bool} {n : Nat} (h : ∀ k, k + 1 < n → J k = J' k) : ∀ f i, grpF J n f i = grpF J' n f i
  | 0, _ => rfl
  | f + 1, i => by
    unfold grpF
    rw [runK_congr h, grpF_congr h f]
theorem runK_J (J : Nat → Bool) (n : Nat) : ∀ f i k, i ≤ k → k < runK J n f i → J k = true
  | 0, i, k, h1, h2 => by simp [runK] at h2; omega
  | f + 1, i, k, h1, h2 => by
    unfold runK at h2
    split at h2
    · rename_i hc
      rcases Nat.lt_or_ge i k with h3 | h3
      · exact runK_J J n f (i + 1) k h3 h2
      · obtain rfl : k = i := by omega
        exact hc.2
    · omega
/-- Groups that follow each other, whose notes are joined. -/
def GOk (J : Nat → Bool) (n : Nat) : Nat → List (Nat × Nat) → Prop
  | _, [] => True
  | i, p :: r => i ≤ p.1 ∧ p.1 < p.2 ∧ p.2 < n ∧ (∀ k, p.1 ≤ k → k < p.2 → J k = true) ∧ GOk J n (p.2 + 1) r
theorem GOk.le {J : Nat → Bool} {n : Nat} : ∀ {l : List (Nat × Nat)} {i j : Nat}, i ≤ j → GOk J n j l → GOk J n i l
  | [], _, _, _, _ => trivial
  | _ :: _, _, _, h, ⟨a, b⟩ => ⟨Nat.le_trans h a, b⟩
theorem grpF_ok (J : Nat → Bool) (n : Nat) : ∀ f i, GOk J n i (grpF J n f i)
  | 0, _ => trivial
  | f + 1, i => by
    unfold grpF
    split
    · rename_i hi
      have hk := runK_le J n n i
      by_cases h : i < runK J n n i
      · rw [if_pos h]
        exact ⟨Nat.le_refl _, h, hk.2 hi, fun k h1 h2 => runK_J J n n i k h1 h2, grpF_ok J n f _⟩
      · rw [if_neg h]
        exact (grpF_ok J n f _).le (by omega)
    · trivial
theorem GOk.at_ {J : Nat → Bool} {n : Nat} : ∀ {l : List (Nat × Nat)} {i : Nat}, GOk J n i l → ∀ q (h : q < l.length), i ≤ l[q].1 ∧ l[q].1 < l[q].2 ∧ l[q].2 < n ∧ (∀ k, l[q].1 ≤ k → k < l[q].2 → J k = true) ∧ (∀ p (hp : p < l.length), p + 1 = q → l[p].2 < l[q].1)
  | [], _, _, q, h => absurd h (by simp)
  | p :: r, i, ⟨a, b, c, d, e⟩, 0, _ => ⟨a, b, c, d, fun _ _ hp => absurd hp (by omega)⟩
  | p :: r, i, ⟨a, b, c, d, e⟩, q + 1, h => by
    have ih := GOk.at_ e q (by simpa using h)
    simp only [List.getElem_cons_succ]
    refine ⟨by omega, ih.2.1, ih.2.2.1, ih.2.2.2.1, fun p' hp' hpq => ?_⟩
    cases p' with
    | zero => obtain rfl : q = 0 := by omega
              simp only [List.getElem_cons_zero]; omega
    | succ p' =>
      simp only [List.getElem_cons_succ]
      exact ih.2.2.2.2 p' (by simpa using hp') (by omega)

/-- The beats of a metre follow each other within a measure. -/
structure Beats (m : Met) (gs : List Int) : Prop where
  pos : 0 < gs.length
  first : (bts m.un gs 0).getD 0 0 = 0
  inc : ∀ i j, i < j → j < gs.length → (bts m.un gs 0).getD i 0 < (bts m.un gs 0).getD j 0
  rng : ∀ i, i < gs.length → 0 ≤ (bts m.un gs 0).getD i 0 ∧ (bts m.un gs 0).getD i 0 < m.len
theorem beats_of {m : Met} {gs : List Int} {L : List Int} (hL : bts m.un gs 0 = L) (h0 : 0 < gs.length) (h1 : L.getD 0 0 = 0) (h2 : L.Pairwise (· < ·)) (h3 : ∀ x ∈ L, 0 ≤ x ∧ x < m.len) : Beats m gs := by
  have hlen : L.length = gs.length := by rw [← hL, bts_len]
  refine ⟨h0, by rw [hL]; exact h1, fun i j hij hj => ?_, fun i hi => ?_⟩
  · rw [hL]
    have := List.pairwise_iff_getElem.1 h2 i j (by omega) (by omega) hij
    simpa [List.getD, show i < L.length by omega, show j < L.length by omega] using this
  · rw [hL]
    have := h3 L[i] (List.getElem_mem (by omega))
    simpa [List.getD, show i < L.length by omega] using this
theorem sig_beats : ∀ k, Beats (sigM k) (sigM k).beatsL
  | 0 => beats_of (L := [0, 483840, 967680, 1451520]) (by kernel_rfl) (by decide +kernel) (by decide) (by decide) (by decide +kernel)
  | 1 => beats_of (L := [0, 725760]) (by kernel_rfl) (by decide +kernel) (by decide) (by decide) (by decide +kernel)
  | 2 => beats_of (L := [0, 725760]) (by kernel_rfl) (by decide +kernel) (by decide) (by decide) (by decide +kernel)
  | 3 => beats_of (L := [0, 483840, 967680]) (by kernel_rfl) (by decide +kernel) (by decide) (by decide) (by decide +kernel)
  | 4 => beats_of (L := [0, 967680]) (by kernel_rfl) (by decide +kernel) (by decide) (by decide) (by decide +kernel)
  | k + 5 => by
    show Beats (sigM 5) (sigM 5).beatsL
    exact beats_of (L := [0, 241920, 483840]) (by kernel_rfl) (by decide +kernel) (by decide) (by decide) (by decide +kernel)

theorem atTo_ge (l : List Int) (t : Int) (h0 : l.getD 0 0 ≤ t) : ∀ k, 0 < k → ∃ i, i < k ∧ atTo l t k = ((i : Int), t - l.getD i 0)
  | 0, h => absurd h (by omega)
  | k + 1, _ => by
    unfold atTo
    by_cases h : l.getD k 0 ≤ t
    · rw [if_pos h]; exact ⟨k, by omega, rfl⟩
    · rw [if_neg h]
      by_cases hk : k = 0
      · subst hk; exact absurd h0 h
      · obtain ⟨i, hi, e⟩ := atTo_ge l t h0 k (by omega)
        exact ⟨i, by omega, e⟩
theorem beat_iff {m : Met} {gs : List Int} (hB : Beats m gs) (hm : 0 < m.len) {t t' : Int} : ((plc m gs t).1 = (plc m gs t').1 ∧ (plc m gs t).2.1 = (plc m gs t').2.1) ↔ beatE m gs t = beatE m gs t' := by
  have r0 := Int.emod_nonneg t (show m.len ≠ 0 by omega)
  have r1 := Int.emod_nonneg t' (show m.len ≠ 0 by omega)
  obtain ⟨i, hi, e⟩ := atTo_ge (bts m.un gs 0) (t % m.len) (by rw [hB.first]; exact r0) gs.length hB.pos
  obtain ⟨j, hj, e'⟩ := atTo_ge (bts m.un gs 0) (t' % m.len) (by rw [hB.first]; exact r1) gs.length hB.pos
  unfold plc beatE
  rw [e, e']
  dsimp only
  have a := hB.rng i hi
  have b := hB.rng j hj
  have q0 := Int.mul_ediv_add_emod t m.len
  have q1 := Int.mul_ediv_add_emod t' m.len
  constructor
  · rintro ⟨h1, h2⟩
    have hij : i = j := by omega
    subst hij
    rw [h1] at q0
    generalize m.len * (t' / m.len) = z at q0 q1
    omega
  · intro h
    have inc1 := hB.inc i j
    have inc2 := hB.inc j i
    generalize (bts m.un gs 0).getD i 0 = x at *
    generalize (bts m.un gs 0).getD j 0 = y at *
    generalize t / m.len = u at *
    generalize t' / m.len = v at *
    generalize t % m.len = r at *
    generalize t' % m.len = s at *
    generalize m.len = L at *
    have huv : u = v := by
      rcases Int.lt_trichotomy u v with h3 | h3 | h3
      · have := Int.mul_le_mul_of_nonneg_left (show u + 1 ≤ v by omega) (show 0 ≤ L by omega)
        rw [Int.mul_add, Int.mul_one] at this
        generalize L * u = p at *
        generalize L * v = q at *
        omega
      · exact h3
      · have := Int.mul_le_mul_of_nonneg_left (show v + 1 ≤ u by omega) (show 0 ≤ L by omega)
        rw [Int.mul_add, Int.mul_one] at this
        generalize L * u = p at *
        generalize L * v = q at *
        omega
    subst huv
    refine ⟨rfl, ?_⟩
    rcases Nat.lt_trichotomy i j with h3 | h3 | h3
    · have := inc1 h3 hj; omega
    · rw [h3]
    · have := inc2 h3 hi; omega

theorem join_eq {m : Met} {gs : List Int} (hB : Beats m gs) (hm : 0 < m.len) (off : Int) (a b : Nt) (hb : 0 ≤ b.st ∧ b.st ≤ 2) : joinB m gs off a b = joinM m gs off a b := by
  unfold joinB joinM
  rw [decide_eq_decide]
  have := beat_iff hB hm (t := off + a.t) (t' := off + b.t)
  constructor
  · rintro ⟨h1, h2, h3, h4⟩
    refine ⟨h2, h3, h1.symm, ?_, ?_⟩
    · rcases h4 with h4 | h4 <;> omega
    · rcases h4 with h4 | h4
      · exact .inl h4
      · exact .inr (this.1 h4.2)
  · rintro ⟨h1, h2, h3, h4, h5⟩
    refine ⟨h3.symm, h1, h2, ?_⟩
    rcases h5 with h5 | h5
    · exact .inl h5
    · by_cases h6 : b.st = 2
      · exact .inl h6
      · exact .inr ⟨by omega, this.2 h5⟩
theorem groups_eq {m : Met} {gs : List Int} (hB : Beats m gs) (hm : 0 < m.len) (off : Int) (l : List Nt) (hl : ∀ x ∈ l, x.Ok) : groupsE m gs off l = groupsM m gs off l := by
  unfold groupsE groupsM
  refine grpF_congr (fun k hk => ?_) _ _
  refine join_eq hB hm off _ _ ?_
  rw [show ntAt l (k + 1) = l[k + 1] by simp [ntAt, hk]]
  exact (hl _ (List.getElem_mem _)).c3
theorem join_flags {m : Met} {gs : List Int} {off : Int} {a b : Nt} (h : joinM m gs off a b = true) : a.fl ≠ 0 ∧ b.fl ≠ 0 ∧ b.st ≠ 1 := by
  unfold joinM at h
  have := of_decide_eq_true h
  exact ⟨this.1, this.2.1, this.2.2.2.1⟩
/-- What BeamGroups looks at in the groups. -/
theorem gok_prop {J : Nat → Bool} {n i : Nat} {G : List (Nat × Nat)} (hG : GOk J n i G) (m : Met) (gs : List Int) (off : Int) (l : List Nt) (hJ : ∀ k, J k = joinM m gs off (ntAt l k) (ntAt l (k + 1))) (q : Nat) (h : q < G.length) :
    G[q].1 < G[q].2 ∧ G[q].2 < n ∧ (∀ k, G[q].1 ≤ k → k ≤ G[q].2 → (ntAt l k).fl ≠ 0 ∧ (G[q].1 < k → (ntAt l k).st ≠ 1)) ∧ (∀ p (hp : p < G.length), p + 1 = q → G[p].2 < G[q].1) := by
  obtain ⟨-, h1, h2, h3, h4⟩ := hG.at_ q h
  refine ⟨h1, h2, fun k hk1 hk2 => ⟨?_, fun hk3 => ?_⟩, h4⟩
  · rcases Nat.lt_or_ge k G[q].2 with h5 | h5
    · have e := h3 k hk1 h5
      rw [hJ] at e
      exact (join_flags e).1
    · obtain ⟨j, rfl⟩ : ∃ j, k = j + 1 := ⟨k - 1, by omega⟩
      have e := h3 j (by omega) (by omega)
      rw [hJ] at e
      exact (join_flags e).2.1
  · obtain ⟨j, rfl⟩ : ∃ j, k = j + 1 := ⟨k - 1, by omega⟩
    have e := h3 j (by omega) (by omega)
    rw [hJ] at e
    exact (join_flags e).2.2
theorem groups_prop (m : Met) (gs : List Int) (off : Int) (l : List Nt) (q : Nat) (h : q < (groupsM m gs off l).length) :
    (groupsM m gs off l)[q].1 < (groupsM m gs off l)[q].2 ∧ (groupsM m gs off l)[q].2 < l.length ∧ (∀ k, (groupsM m gs off l)[q].1 ≤ k → k ≤ (groupsM m gs off l)[q].2 → (ntAt l k).fl ≠ 0 ∧ ((groupsM m gs off l)[q].1 < k → (ntAt l k).st ≠ 1)) ∧ (∀ p (hp : p < (groupsM m gs off l).length), p + 1 = q → (groupsM m gs off l)[p].2 < (groupsM m gs off l)[q].1) :=
  gok_prop (grpF_ok (fun i => joinM m gs off (ntAt l i) (ntAt l (i + 1))) l.length l.length 0) m gs off l (fun _ => rfl) q h
theorem voice_all {ns : List Vn} {hs : List Vh} (hA : ∀ x ∈ ns, x.Ok) (hB : ∀ x ∈ hs, x.Ok) (m : Met) (hc : m.chk = 0) (o : Int) (ho : 0 ≤ o ∧ o ≤ 255) : allE m (o % 32 * 120960) (voiceL ns hs) = 0 := by
  unfold allE
  rw [if_neg (by rw [hc]; simp), if_neg (by omega), if_neg (by rw [voice_nt hA hB]; simp), lateE, if_neg]
  rintro ⟨x, hx, h⟩
  obtain ⟨i, hi, rfl⟩ := List.mem_iff_getElem.1 hx
  rw [voiceL_get] at h
  rw [voiceL_len] at hi
  have := mkT_rng ns i
  have h16 : i < 16 := by unfold vLen at hi; omega
  have e : (mkN ns hs i).t = mkT ns i := rfl
  rw [e] at h
  omega
end Go.Proofs.Ytglkpoiajebleaa
