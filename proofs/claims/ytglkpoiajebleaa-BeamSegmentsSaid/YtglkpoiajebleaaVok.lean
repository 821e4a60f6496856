/- DERIVED. The notes of a voice are proper; the stems of a placed group (plain). -/
import Derived.Test.YtglkpoiajebleaaMak
import Derived.Test.YtglkpoiajebleaaPld
namespace Go.Proofs.Ytglkpoiajebleaa
open Go.RowKit

theorem ntE_of : ∀ (l : List Nt) (p : Option Int), (∀ x ∈ l, x.Ok) → (∀ i (h : i + 1 < l.length), l[i].t + l[i].len ≤ l[i + 1].t) → (∀ e, p = some e → ∀ h : 0 < l.length, e ≤ l[0].t) → ntE p l = 0
  | [], _, _, _, _ => rfl
  | x :: r, p, h1, h2, h3 => by
    rw [ntE, if_pos (h1 x (by simp)), if_neg]
    · refine ntE_of r _ (fun y hy => h1 y (by simp [hy])) (fun i hi => ?_) (fun e he hr => ?_)
      · have := h2 (i + 1) (by simpa using hi)
        simpa using this
      · injection he with he
        have := h2 0 (by simpa using hr)
        simp only [List.getElem_cons_zero, List.getElem_cons_succ] at this
        omega
    · rintro ⟨e, he, hlt⟩
      have := h3 e he (by simp)
      simp only [List.getElem_cons_zero] at this
      omega
theorem mkN_ok {ns : List Vn} {hs : List Vh} (hA : ∀ x ∈ ns, x.Ok) (hB : ∀ x ∈ hs, x.Ok) (i : Nat) (h : i < 16) : (mkN ns hs i).Ok ∧ (mkN ns hs i).fl ≤ 3 ∧ (-2048 ≤ (mkN ns hs i).hd ∧ (mkN ns hs i).hd ≤ 2048) ∧ (-2048 ≤ (mkN ns hs i).cl ∧ (mkN ns hs i).cl ≤ 2048) := by
  have ht := mkT_rng ns i
  unfold mkN
  by_cases hh : i < hs.length
  · have hk := hB hs[i] (List.getElem_mem _)
    have h1 := hk.h
    have h2 := hk.c
    rw [dif_pos hh, dif_pos hh]
    exact ⟨⟨by dsimp only; omega, by dsimp only; omega, by dsimp only; omega, by dsimp only; omega, by dsimp only; omega, by dsimp only; omega, by dsimp only; omega⟩, by dsimp only; omega, by dsimp only; omega, by dsimp only; omega⟩
  · rw [dif_neg hh, dif_neg hh]
    exact ⟨⟨by dsimp only; omega, by dsimp only; omega, by dsimp only; omega, by dsimp only; omega, by dsimp only; omega, by dsimp only; omega, by dsimp only; omega⟩, by dsimp only; omega, by dsimp only; omega, by dsimp only; omega⟩
theorem voiceL_len (ns : List Vn) (hs : List Vh) : (voiceL ns hs).length = vLen ns := by simp [voiceL, mkL_len]
theorem voiceL_get (ns : List Vn) (hs : List Vh) (i : Nat) (h : i < (voiceL ns hs).length) : (voiceL ns hs)[i] = mkN ns hs i := by simp [voiceL, mkL]
theorem voice_ok {ns : List Vn} {hs : List Vh} (hA : ∀ x ∈ ns, x.Ok) (hB : ∀ x ∈ hs, x.Ok) : ∀ x ∈ voiceL ns hs, x.Ok ∧ x.fl ≤ 3 ∧ (-2048 ≤ x.hd ∧ x.hd ≤ 2048) ∧ (-2048 ≤ x.cl ∧ x.cl ≤ 2048) := by
  intro x hx
  obtain ⟨i, hi, rfl⟩ := List.mem_iff_getElem.1 hx
  rw [voiceL_get]
  exact mkN_ok hA hB i (by rw [voiceL_len] at hi; unfold vLen at hi; omega)
theorem voice_nt {ns : List Vn} {hs : List Vh} (hA : ∀ x ∈ ns, x.Ok) (hB : ∀ x ∈ hs, x.Ok) : ntE none (voiceL ns hs) = 0 := by
  refine ntE_of _ _ (fun x hx => (voice_ok hA hB x hx).1) (fun i h => ?_) (fun e he => by cases he)
  rw [voiceL_get, voiceL_get]
  show mkT ns i + (1 + (vnAt ns i).a % 6) * 120960 ≤ mkT ns (i + 1)
  rw [mkT]
  split <;> omega
theorem gE_of {l : List Nt} {F K : Nat} (h1 : F < K) (h2 : K < l.length) (h3 : ∀ i (hi : i < l.length), F ≤ i → i ≤ K → l[i].fl ≠ 0) : gE l F K = 0 := by
  unfold gE
  rw [if_neg (by omega), if_neg]
  rintro ⟨i, hi, a, b, c⟩
  exact h3 i hi (by omega) (by omega) c

theorem sgn_cases (up : Bool) : up = true ∧ sgn up = 1 ∨ up = false ∧ sgn up = -1 := by cases up <;> simp [sgn]
theorem far_ge (up : Bool) (a b : Int) : sgn up * a ≤ sgn up * far up a b ∧ sgn up * b ≤ sgn up * far up a b ∧ (far up a b = a ∨ far up a b = b) := by
  cases up <;> simp only [sgn, far, if_true, if_false, Bool.false_eq_true] <;> omega
theorem fromTo_ge (up : Bool) (l : List Nt) (F K : Nat) (s : Int) : ∀ j i, i < j → sgn up * nE up l F K s (F + i) ≤ sgn up * fromTo up l F K s j
  | 0, _, h => absurd h (by omega)
  | j + 1, i, h => by
    rw [fromTo]
    obtain ⟨a, b, -⟩ := far_ge up (if j = 0 then nE up l F K s (F + j) else fromTo up l F K s j) (nE up l F K s (F + j))
    rcases Nat.lt_or_ge i j with h1 | h1
    · rw [if_neg (by omega)] at a ⊢
      exact Int.le_trans (fromTo_ge up l F K s j i h1) a
    · obtain rfl : i = j := by omega
      exact b
theorem fromTo_at (up : Bool) (l : List Nt) (F K : Nat) (s : Int) : ∀ j, 0 < j → ∃ i, i < j ∧ fromTo up l F K s j = nE up l F K s (F + i)
  | 0, h => absurd h (by omega)
  | j + 1, _ => by
    rw [fromTo]
    rcases (far_ge up (if j = 0 then nE up l F K s (F + j) else fromTo up l F K s j) (nE up l F K s (F + j))).2.2 with h | h
    · by_cases hj : j = 0
      · rw [if_pos hj] at h ⊢; exact ⟨j, by omega, h⟩
      · rw [if_neg hj] at h ⊢
        obtain ⟨i, hi, e⟩ := fromTo_at up l F K s j (by omega)
        exact ⟨i, by omega, h.trans e⟩
    · exact ⟨j, by omega, h⟩
/-- The height of a stem. -/
def stemE (up : Bool) (l : List Nt) (F K : Nat) (i : Nat) : Int := fromE up l F K + riseE l F K (slopeE up l F K) (ntAt l (F + i)).t
def outE (up : Bool) (l : List Nt) (F K i : Nat) : Int := sgn up * stemE up l F K i - 48 * ((ntAt l (F + i)).fl - 1)
def exB (up : Bool) (l : List Nt) (F K i : Nat) : Bool := decide (outE up l F K i - sgn up * (ntAt l (F + i)).hd = 160) || decide (outE up l F K i - 32 = sgn up * (ntAt l (F + i)).cl)
theorem need_is (up : Bool) (x : Nt) : ∀ s, sgn up * needE up x ≤ s → 160 ≤ s - 48 * (x.fl - 1) - sgn up * x.hd ∧ sgn up * x.cl ≤ s - 48 * (x.fl - 1) - 32 := by
  intro s h
  unfold needE far at h
  cases up <;> simp only [sgn, if_true, if_false, Bool.false_eq_true] at h ⊢ <;> omega
theorem need_eq (up : Bool) (x : Nt) : sgn up * needE up x - 48 * (x.fl - 1) - sgn up * x.hd = 160 ∨ sgn up * needE up x - 48 * (x.fl - 1) - 32 = sgn up * x.cl := by
  unfold needE far
  cases up <;> simp only [sgn, if_true, if_false, Bool.false_eq_true] <;> omega
theorem stem_ge (up : Bool) (l : List Nt) (F K i : Nat) (h : F ≤ K) (hi : i < K - F + 1) : 160 ≤ outE up l F K i - sgn up * (ntAt l (F + i)).hd ∧ sgn up * (ntAt l (F + i)).cl ≤ outE up l F K i - 32 := by
  have h1 := fromTo_ge up l F K (slopeE up l F K) (K - F + 1) i hi
  unfold outE
  refine need_is up (ntAt l (F + i)) _ ?_
  unfold stemE fromE
  unfold nE at h1
  obtain ⟨-, e⟩ | ⟨-, e⟩ := sgn_cases up <;> rw [e] at h1 ⊢ <;> omega
theorem stem_exact (up : Bool) (l : List Nt) (F K : Nat) : ∃ i, i < K - F + 1 ∧ exB up l F K i = true := by
  obtain ⟨i, hi, h1⟩ := fromTo_at up l F K (slopeE up l F K) (K - F + 1) (by omega)
  refine ⟨i, hi, ?_⟩
  have e : stemE up l F K i = needE up (ntAt l (F + i)) := by
    unfold stemE fromE
    unfold nE at h1
    omega
  unfold exB outE
  rw [e]
  simp only [Bool.or_eq_true, decide_eq_true_eq]
  exact need_eq up _
theorem stem_first (up : Bool) (l : List Nt) (F K : Nat) : stemE up l F K 0 = fromE up l F K := by
  unfold stemE riseE
  simp
theorem stem_last (up : Bool) (l : List Nt) (F K : Nat) (h : F ≤ K) (ht : (ntAt l F).t < (ntAt l K).t) : stemE up l F K (K - F) = fromE up l F K + slopeE up l F K := by
  unfold stemE riseE
  rw [show F + (K - F) = K by omega, Int.mul_ediv_cancel _ (by omega)]
/-- Where the line begins, of notes whose heights are small. -/
theorem fromE_rng {up : Bool} {l : List Nt} {F K : Nat} (hn : ntE none l = 0) (h1 : F < K) (h2 : K < l.length) : -1050128 ≤ fromE up l F K ∧ fromE up l F K ≤ 1050128 := by
  obtain ⟨i, hi, e⟩ := fromTo_at up l F K (slopeE up l F K) (K - F + 1) (by omega)
  unfold fromE
  rw [e]
  have hFi : F + i < l.length := by omega
  have eF : ntAt l F = l[F] := by simp [ntAt, show F < l.length by omega]
  have eK : ntAt l K = l[K] := by simp [ntAt, h2]
  have ei : ntAt l (F + i) = l[F + i] := by simp [ntAt, hFi]
  have t1 : (ntAt l F).t ≤ (ntAt l (F + i)).t := by rw [ei, eF]; exact ntE_le hn (by omega) hFi
  have t2 : (ntAt l (F + i)).t ≤ (ntAt l K).t := by rw [ei, eK]; exact ntE_le hn (by omega) h2
  have t3 : (ntAt l F).t < (ntAt l K).t := by
    rw [eF, eK]
    have := ntE_mono hn h1 h2
    have := (ntE_ok l none hn l[F] (List.getElem_mem _)).c1
    omega
  have hs := slopeTo_rng up l F K (K - F - 1)
  have hr := riseE_rng (s := slopeE up l F K) hs.1 hs.2 t1 t2 t3
  have hd := needE_rng (up := up) (by rw [ei]; exact ntE_ok l none hn _ (List.getElem_mem _) : (ntAt l (F + i)).Ok)
  unfold nE
  omega
theorem stem_rng {up : Bool} {l : List Nt} {F K : Nat} (hn : ntE none l = 0) (h1 : F < K) (h2 : K < l.length) (i : Nat) (hi : i < K - F + 1) : -1050256 ≤ stemE up l F K i ∧ stemE up l F K i ≤ 1050256 := by
  have hFi : F + i < l.length := by omega
  have eF : ntAt l F = l[F] := by simp [ntAt, show F < l.length by omega]
  have eK : ntAt l K = l[K] := by simp [ntAt, h2]
  have ei : ntAt l (F + i) = l[F + i] := by simp [ntAt, hFi]
  have t1 : (ntAt l F).t ≤ (ntAt l (F + i)).t := by rw [ei, eF]; exact ntE_le hn (by omega) hFi
  have t2 : (ntAt l (F + i)).t ≤ (ntAt l K).t := by rw [ei, eK]; exact ntE_le hn (by omega) h2
  have t3 : (ntAt l F).t < (ntAt l K).t := by
    rw [eF, eK]
    have := ntE_mono hn h1 h2
    have := (ntE_ok l none hn l[F] (List.getElem_mem _)).c1
    omega
  have hs := slopeTo_rng up l F K (K - F - 1)
  have hr := riseE_rng (s := slopeE up l F K) hs.1 hs.2 t1 t2 t3
  have hd := fromE_rng (up := up) hn h1 h2
  unfold stemE
  omega
end Go.Proofs.Ytglkpoiajebleaa
