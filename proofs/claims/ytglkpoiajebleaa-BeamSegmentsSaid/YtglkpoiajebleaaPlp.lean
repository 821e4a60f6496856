/- DERIVED. Contracts of package beam: Place of proper notes: the plain words. -/
import Derived.Test.YtglkpoiajebleaaPlc
namespace Go.Proofs.Ytglkpoiajebleaa
open Go.RowKit

def sgn (up : Bool) : Int := if up then 1 else -1
def far (up : Bool) (a b : Int) : Int := if up then max a b else min a b
def slope0 (a b : Int) : Int := min (max (Int.tdiv (b - a) 2) (-128)) 128
/-- The slope behind j inner notes. -/
def slopeTo (up : Bool) (l : List Nt) (F K : Nat) : Nat → Int
  | 0 => slope0 (ntAt l F).hd (ntAt l K).hd
  | j + 1 => if sgn up * (ntAt l F).hd < sgn up * (ntAt l (F + 1 + j)).hd ∧ sgn up * (ntAt l K).hd < sgn up * (ntAt l (F + 1 + j)).hd then 0 else slopeTo up l F K j
def needE (up : Bool) (x : Nt) : Int := far up (x.hd + sgn up * (160 + (x.fl - 1) * 48)) (x.cl + sgn up * (32 + (x.fl - 1) * 48))
def riseE (l : List Nt) (F K : Nat) (s t : Int) : Int := s * (t - (ntAt l F).t) / ((ntAt l K).t - (ntAt l F).t)
def nE (up : Bool) (l : List Nt) (F K : Nat) (s : Int) (i : Nat) : Int := needE up (ntAt l i) - riseE l F K s (ntAt l i).t
/-- The beginning of the line behind j notes. -/
def fromTo (up : Bool) (l : List Nt) (F K : Nat) (s : Int) : Nat → Int
  | 0 => 0
  | j + 1 => far up (if j = 0 then nE up l F K s (F + j) else fromTo up l F K s j) (nE up l F K s (F + j))
def slopeE (up : Bool) (l : List Nt) (F K : Nat) : Int := slopeTo up l F K (K - F - 1)
def fromE (up : Bool) (l : List Nt) (F K : Nat) : Int := fromTo up l F K (slopeE up l F K) (K - F + 1)

theorem slope0_rng (a b : Int) : -128 ≤ slope0 a b ∧ slope0 a b ≤ 128 := by unfold slope0; omega
theorem slopeTo_rng (up : Bool) (l : List Nt) (F K : Nat) : ∀ j, -128 ≤ slopeTo up l F K j ∧ slopeTo up l F K j ≤ 128
  | 0 => slope0_rng _ _
  | j + 1 => by
    have := slopeTo_rng up l F K j
    unfold slopeTo
    split <;> omega
theorem div_rng {a b M : Int} (hb : 0 < b) (h1 : -M ≤ a) (h2 : a ≤ M) (hM : 0 ≤ M) : -M ≤ a / b ∧ a / b ≤ M := by
  constructor
  · refine (Int.le_ediv_iff_mul_le hb).2 (Int.le_trans ?_ h1)
    obtain ⟨c, rfl⟩ : ∃ c, b = 1 + c := ⟨b - 1, by omega⟩
    have : 0 ≤ M * c := Int.mul_nonneg hM (by omega)
    have e : -M * (1 + c) = -M - M * c := by rw [Int.mul_add, Int.mul_one, Int.neg_mul]; omega
    omega
  · rcases Int.lt_or_le a 0 with h | h
    · have := Int.ediv_neg_of_neg_of_pos h hb; omega
    · have := Int.ediv_le_self b h; omega
theorem mul_rng {s d D : Int} (h1 : -128 ≤ s) (h2 : s ≤ 128) (h3 : 0 ≤ d) (h4 : d ≤ D) : -(128 * D) ≤ s * d ∧ s * d ≤ 128 * D := by
  have a : s * d ≤ 128 * d := Int.mul_le_mul_of_nonneg_right h2 h3
  have b : -128 * d ≤ s * d := Int.mul_le_mul_of_nonneg_right h1 h3
  omega
theorem riseE_rng {l : List Nt} {F K : Nat} {s t : Int} (h1 : -128 ≤ s) (h2 : s ≤ 128) (h3 : (ntAt l F).t ≤ t) (h4 : t ≤ (ntAt l K).t) (h5 : (ntAt l F).t < (ntAt l K).t) : -128 ≤ riseE l F K s t ∧ riseE l F K s t ≤ 128 := by
  unfold riseE
  have hd : 0 < (ntAt l K).t - (ntAt l F).t := by omega
  obtain ⟨a, b⟩ := mul_rng (D := (ntAt l K).t - (ntAt l F).t) h1 h2 (show 0 ≤ t - (ntAt l F).t by omega) (by omega)
  constructor
  · exact (Int.le_ediv_iff_mul_le hd).2 (by rw [Int.neg_mul]; omega)
  · have := (Int.ediv_lt_iff_lt_mul (a := s * (t - (ntAt l F).t)) (b := 129) hd).2 (by omega)
    omega
theorem far_rng {up : Bool} {a b m M : Int} (h1 : m ≤ a ∧ a ≤ M) (h2 : m ≤ b ∧ b ≤ M) : m ≤ far up a b ∧ far up a b ≤ M := by
  unfold far; split <;> omega
theorem needE_rng {up : Bool} {x : Nt} (h : x.Ok) : -1050000 ≤ needE up x ∧ needE up x ≤ 1050000 := by
  have h1 := h.c2
  have h2 := h.c4
  have h3 := h.c5
  unfold needE
  apply far_rng <;> cases up <;> simp only [sgn, if_true, if_false, Bool.false_eq_true] <;> omega
end Go.Proofs.Ytglkpoiajebleaa
