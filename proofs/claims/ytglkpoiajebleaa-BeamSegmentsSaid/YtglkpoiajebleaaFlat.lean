/- DERIVED. Arguments read to their cells: integers, bools, slices, and structs and arrays of these, nested or not. Over whatever program. -/
import Derived.Deep.Slices
import Derived.ChangeSame
import Derived.OpenShut
import Derived.ProofKit
namespace Go.Proofs.Ytglkpoiajebleaa
open Go.RowKit Go.ChangeShapes Go.WideShapes Go.Deep

/-- The kind of one cell. -/
inductive CK where
  | int (k : IntKind)
  | bool
  | ref (t : TypeId)

def flatFields (P : Program) (g : TypeId → Option (List CK)) : List Field → Nat → Option (List CK)
  | [], _ => some []
  | f :: fs, off => if f.offset = off then (g f.type).bind fun ks => if P.cellsOf f.type = ks.length then (flatFields P g fs (off + ks.length)).map (ks ++ ·) else none else none

def flatRep (m : Nat) (ks : List CK) : List CK := match m with
  | 0 => []
  | m + 1 => ks ++ flatRep m ks

/-- The kinds of the cells of a type. -/
def flat (P : Program) : Nat → TypeId → Option (List CK)
  | 0, _ => none
  | n + 1, t => match P.underlying t with
    | some (.int k) => some [.int k]
    | some .bool => some [.bool]
    | some (.slice _) => some [.ref t]
    | some (.struct fs) => (flatFields P (flat P n) fs.toList 0).bind fun ks => if P.cellsOf t = ks.length then some ks else none
    | some (.array m e) => (flat P n e).bind fun ks => if P.cellsOf e = ks.length ∧ P.cellsOf t = m * ks.length then some (flatRep m ks) else none
    | _ => none

def Fits (R : CK → Value → Prop) : List CK → List Value → Prop
  | [], [] => True
  | k :: ks, v :: vs => R k v ∧ Fits R ks vs
  | _, _ => False

section
variable {R : CK → Value → Prop}
theorem Fits.len : ∀ {ks : List CK} {vs : List Value}, Fits R ks vs → vs.length = ks.length
  | [], [], _ => rfl
  | _ :: _, _ :: _, h => by simp [Fits.len h.2]
theorem Fits.append : ∀ {ks ls : List CK} {vs us : List Value}, Fits R ks vs → Fits R ls us → Fits R (ks ++ ls) (vs ++ us)
  | [], _, [], _, _, h => h
  | _ :: _, _, _ :: _, _, h, h' => ⟨h.1, Fits.append h.2 h'⟩
end

/-- What a cell of a kind holds. -/
def CK.is {H : Type} (enc : TypeId × Value → H) (P : Program) (w : World) (base : Nat) (spare : Nat → Bool) (held : Bool) : CK → Value → Prop
  | .int k, v => ∃ n, v = .int k n ∧ (Lit.int k n).wf = true
  | .bool, v => ∃ b, v = .bool b
  | .ref t, v => ∃ n x, DataW.trod enc P w base spare held n t [v] = some x

section
variable {H : Type} {enc : TypeId × Value → H} {P : Program} {w : World} {base : Nat} {spare : Nat → Bool} {held : Bool}

theorem fits_fields {n : Nat} {g : TypeId → Option (List CK)} {cs : List Value}
    (hg : ∀ t ks (us : List Value) x, g t = some ks → DataW.trod enc P w base spare held n t us = some x → Fits (CK.is enc P w base spare held) ks us) :
    ∀ (fs : List Field) (off : Nat) (ks : List CK) (xs : List (DataW H × List MemPlace)), flatFields P g fs off = some ks → cs.length = off + ks.length → xs.length = fs.length →
      (∀ (i : Nat) (f : Field), fs[i]? = some f → DataW.trod enc P w base spare held n f.type ((cs.drop f.offset).take (P.cellsOf f.type)) = xs[i]?) → Fits (CK.is enc P w base spare held) ks (cs.drop off)
  | [], off, ks, xs, h, hl, _, _ => by
    simp only [flatFields, Option.some.injEq] at h
    subst h
    rw [List.drop_eq_nil_of_le (by simp at hl; omega)]
    trivial
  | f :: fs, off, ks, xs, h, hl, hx, hf => by
    simp only [flatFields] at h
    split at h
    · rename_i ho
      obtain ⟨k1, hk1, h⟩ := Option.bind_eq_some_iff.1 h
      split at h
      · rename_i hc
        obtain ⟨k2, hk2, rfl⟩ := Option.map_eq_some_iff.1 h
        match xs, hx with
        | x0 :: xs, hx =>
          have h0 := hf 0 f rfl
          rw [ho, hc] at h0
          have hF1 := hg _ _ _ x0 hk1 h0
          have hl' : cs.length = off + k1.length + k2.length := by rw [hl, List.length_append]; omega
          have hF2 := fits_fields hg fs (off + k1.length) k2 xs hk2 hl' (by simpa using hx) fun i f' hi => by
            have := hf (i + 1) f' (by simpa using hi)
            simpa using this
          have e : cs.drop off = (cs.drop off).take k1.length ++ cs.drop (off + k1.length) := by
            rw [← List.drop_drop, List.take_append_drop]
          rw [e]
          exact hF1.append hF2
      · cases h
    · cases h

theorem fits_rep {n : Nat} {e : TypeId} {ks : List CK} {cs : List Value} (hc : P.cellsOf e = ks.length)
    (hg : ∀ (us : List Value) x, DataW.trod enc P w base spare held n e us = some x → Fits (CK.is enc P w base spare held) ks us) (xs : List (DataW H × List MemPlace)) :
    ∀ (m i : Nat), xs.length = i + m → cs.length = (i + m) * ks.length →
      (∀ j, j < i + m → DataW.trod enc P w base spare held n e ((cs.drop (j * P.cellsOf e)).take (P.cellsOf e)) = xs[j]?) → Fits (CK.is enc P w base spare held) (flatRep m ks) (cs.drop (i * ks.length))
  | 0, i, _, hl, _ => by
    rw [List.drop_eq_nil_of_le (by rw [hl]; simp)]
    trivial
  | m + 1, i, hx, hl, hf => by
    have h0 := hf i (by omega)
    rw [List.getElem?_eq_getElem (show i < xs.length by omega), hc] at h0
    have hF1 := hg _ _ h0
    have hF2 := fits_rep hc hg xs m (i + 1) (by omega) (by rw [hl]; congr 1; omega) fun j hj => hf j (by omega)
    have e : cs.drop (i * ks.length) = (cs.drop (i * ks.length)).take ks.length ++ cs.drop ((i + 1) * ks.length) := by
      rw [Nat.add_mul, Nat.one_mul, ← List.drop_drop, List.take_append_drop]
    rw [e]
    exact hF1.append hF2

/-- THE LAW: what reads as a value of the type has cells of the kinds. -/
theorem fits_of_trod : ∀ (n : Nat) (t : TypeId) (ks : List CK) (fuel : Nat) (cs : List Value) (x : DataW H × List MemPlace), flat P n t = some ks →
    DataW.trod enc P w base spare held fuel t cs = some x → Fits (CK.is enc P w base spare held) ks cs
  | 0, _, _, _, _, _, h, _ => by simp [flat] at h
  | n + 1, t, ks, fuel, cs, x, h, ht => by
    simp only [flat] at h
    split at h
    · rename_i k hu
      obtain rfl := Option.some.inj h
      obtain ⟨m, rfl, _, hw⟩ := DataW.trod_int hu ht
      exact ⟨⟨m, rfl, hw⟩, trivial⟩
    · rename_i hu
      obtain rfl := Option.some.inj h
      obtain ⟨b, rfl, _⟩ := DataW.trod_bool hu ht
      exact ⟨⟨b, rfl⟩, trivial⟩
    · rename_i e hu
      obtain rfl := Option.some.inj h
      rcases DataW.trod_slice hu ht with ⟨rfl, _⟩ | ⟨a, len, cap, _, _, _, _, rfl, _⟩
      · exact ⟨⟨fuel, x, ht⟩, trivial⟩
      · exact ⟨⟨fuel, x, ht⟩, trivial⟩
    · rename_i fs hu
      obtain ⟨k1, hk1, h⟩ := Option.bind_eq_some_iff.1 h
      split at h
      · rename_i hc
        obtain rfl := Option.some.inj h
        obtain ⟨xs, m, _, _, hl, hxl, hf⟩ := DataW.trod_struct hu ht
        have := fits_fields (n := m) (cs := cs) (fun t' ks' us x' hk hx => fits_of_trod n t' ks' m us x' hk hx) fs.toList 0 k1 xs hk1 (by rw [hl, hc]; omega) (by rw [hxl]; simp) fun i f hi => hf i f (by simpa using hi)
        simpa using this
      · cases h
    · rename_i m e hu
      obtain ⟨k1, hk1, h⟩ := Option.bind_eq_some_iff.1 h
      split at h
      · rename_i hc
        obtain rfl := Option.some.inj h
        obtain ⟨xs, m', _, _, hl, hxl, hf⟩ := DataW.trod_array hu ht
        have := fits_rep (n := m') (cs := cs) hc.1 (fun us x' hx => fits_of_trod n e k1 m' us x' hk1 hx) xs m 0 (by omega) (by rw [hl, hc.2]; simp) fun j hj => hf j (by omega)
        simpa using this
      · cases h
    · cases h

theorem arg_struct {r : Reach} {b0 n : Nat} {t : TypeId} {fs : Array Field} {ks : List CK} {v : Value} {d : DataW H} {p : List MemPlace} (hs : P.underlying t = some (.struct fs)) (hf : flat P n t = some ks)
    (hv : Value.okWide P w r b0 t v) (h : DataW.Trod enc P w base spare held t v d p) : ∃ vs : List Value, v = .agg vs.toArray ∧ Fits (CK.is enc P w base spare held) ks vs := by
  obtain ⟨cs, rfl, _⟩ := okWide_struct hs hv
  obtain ⟨fuel, hd⟩ := h
  exact ⟨cs.toList, by simp, fits_of_trod _ _ _ _ _ _ hf hd⟩

theorem arg_array {r : Reach} {b0 n m : Nat} {t e : TypeId} {ks : List CK} {v : Value} {d : DataW H} {p : List MemPlace} (hs : P.underlying t = some (.array m e)) (hf : flat P n t = some ks)
    (hv : Value.okWide P w r b0 t v) (h : DataW.Trod enc P w base spare held t v d p) : ∃ vs : List Value, v = .agg vs.toArray ∧ Fits (CK.is enc P w base spare held) ks vs := by
  obtain ⟨cs, rfl⟩ : ∃ cs, v = .agg cs := by
    simp only [Value.okWide, hs] at hv
    obtain ⟨cs, h1, _⟩ := hv
    exact ⟨cs, h1⟩
  obtain ⟨fuel, hd⟩ := h
  exact ⟨cs.toList, by simp, fits_of_trod _ _ _ _ _ _ hf hd⟩

theorem add_lit (b off : Nat) (n : Nat) : (⟨b, off, none⟩ : Addr).add n = ⟨b, off + n, none⟩ := by
  unfold Addr.add
  split
  · rename_i h; subst h; rfl
  · rfl

/-- A slice whose elements are flat. -/
theorem slice_flat {n fuel : Nat} {t e : TypeId} {ks : List CK} {v : Value} {x : DataW H × List MemPlace} (ht : P.underlying t = some (.slice e)) (hf : flat P n e = some ks) (hC : P.cellsOf e = ks.length) (h0 : 0 < ks.length)
    (h : DataW.trod enc P w base spare held fuel t [v] = some x) :
    ∃ (A : Option Addr) (len cap : Nat), v = .slice A len cap ∧ len ≤ cap ∧ cap ≤ maxLen ∧ (A = none → len = 0 ∧ cap = 0) ∧
      ∀ i, i < len → ∃ b off vs, A = some ⟨b, off, none⟩ ∧ b < w.heap.size ∧ Fits (CK.is enc P w base spare held) ks vs ∧ ∀ j u, vs[j]? = some u → w.cell? ⟨b, off + i * ks.length + j, none⟩ = some u := by
  rcases open_slice ht h with ⟨hcs, _⟩ | ⟨a, len, cap, m, k, D, Pl, hcs, _, hl, hm, hmm, _, hi⟩
  · simp only [List.cons.injEq, and_true] at hcs
    exact ⟨none, 0, 0, hcs, Nat.le_refl _, Nat.zero_le _, fun _ => ⟨rfl, rfl⟩, fun i hi => absurd hi (by omega)⟩
  · simp only [List.cons.injEq, and_true] at hcs
    refine ⟨some a, len, cap, hcs, hl, hm, (fun h => by cases h), fun i hlt => ?_⟩
    have him : i < m := by rw [hmm]; split <;> omega
    obtain ⟨cs', hc, hd⟩ := hi i him
    have hF := fits_of_trod _ _ _ _ _ _ hf hd
    obtain ⟨_, hlen, hat⟩ := World.cells?_some hc
    have hl' := hF.len
    have hcell0 := hat 0 (by rw [hC]; exact h0)
    rw [List.getElem?_eq_getElem (show 0 < cs'.length by omega)] at hcell0
    have hblk := World.block_lt_of_cell? w _ hcell0
    have hs2 : a.spot = none := by
      obtain ⟨cs0, hc0, hd0⟩ := hi 0 (by omega)
      have hl0 := (fits_of_trod _ _ _ _ _ _ hf hd0).len
      obtain ⟨_, _, hat0⟩ := World.cells?_some hc0
      have h1 := hat0 0 (by rw [hC]; exact h0)
      rw [List.getElem?_eq_getElem (show 0 < cs0.length by omega)] at h1
      have := World.cell?_spot h1
      simpa [Addr.add] using this
    obtain ⟨b, off, spot⟩ := a
    simp only at hs2
    subst hs2
    refine ⟨b, off, cs', rfl, ?_, hF, fun j u hj => ?_⟩
    · rw [add_lit, add_lit] at hblk
      exact hblk
    · have hjl := (List.getElem?_eq_some_iff.1 hj).1
      have := hat j (by omega)
      rw [add_lit, add_lit, hC] at this
      rw [this, hj]
end

/-- From 'for each index one' to a list. -/
theorem list_of {α : Type} {Q : Nat → α → Prop} : ∀ (n : Nat), (∀ i, i < n → ∃ x, Q i x) → ∃ l : List α, l.length = n ∧ ∀ i (hi : i < l.length), Q i l[i]
  | 0, _ => ⟨[], rfl, fun i hi => absurd hi (by simp)⟩
  | n + 1, h => by
    obtain ⟨l, hl, hq⟩ := list_of n fun i hi => h i (by omega)
    obtain ⟨x, hx⟩ := h n (by omega)
    refine ⟨l ++ [x], by simp [hl], fun i hi => ?_⟩
    by_cases e : i < l.length
    · rw [List.getElem_append_left e]; exact hq i e
    · have : i = n := by simp at hi; omega
      subst this
      rw [List.getElem_append_right (by omega)]
      simpa using hx
end Go.Proofs.Ytglkpoiajebleaa
