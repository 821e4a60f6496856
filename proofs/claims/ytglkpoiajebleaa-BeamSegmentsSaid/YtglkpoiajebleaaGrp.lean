/- DERIVED. Contracts of package metre: groups where none are given. -/
import Derived.Test.YtglkpoiajebleaaChk
namespace Go.Proofs.Ytglkpoiajebleaa
open Go.RowKit

/-- A row of ints in memory, at the head of its block. -/
def Row (w : World) (g : Nat) (l : List Int) : Prop := ∀ i (h : i < l.length), w.cell? ⟨g, i, none⟩ = some (.int .i64 l[i])
theorem Row.only {w w' : World} {g : Nat} {l : List Int} (h : Row w g l) (o : Only [] w w') : Row w' g l := fun i hi => by
  have h1 := h i hi
  exact (o.cell (World.block_lt_of_cell? _ _ h1) (by simp)).trans h1
theorem Row.of_blk {w : World} {g : Nat} {l : List Int} (h : Blk w g 3 (l.map (.int .i64))) : Row w g l := fun i hi => by
  rw [h.cell i]
  simp [hi]

/-- The groups where none are given. -/
def Met.three (m : Met) : Prop := 8 ≤ m.u ∧ m.c % 3 = 0
instance (m : Met) : Decidable m.three := by unfold Met.three; infer_instance
def Met.zL (m : Met) : List Int := if m.three then List.replicate (m.c / 3).toNat 3 else List.replicate m.c.toNat 1

set_option maxRecDepth 20000 in
set_option maxHeartbeats 4000000 in
theorem groups_z (m : Met) (hk : m.Ok) (hz : m.z = true) (w : World) :
    Calls Try.prog 48 #[metV m] w fun e w' => ∃ g, e = .returned (.slice (some ⟨g, 0, none⟩) m.zL.length m.zL.length) ∧ w.heap.size ≤ g ∧ Row w' g m.zL ∧ Only [] w w' := by
  have hz' := hz
  unfold Met.z at hz'
  have h1 := hk.c1
  have h2 := hk.c2
  have h3 := hk.u1
  have h4 := hk.u2
  clear hz hk
  by_cases ht : m.three
  · have HT := Lib.hid (show m.zL = List.replicate (m.c / 3).toNat 3 from if_pos ht)
    obtain ⟨t1, t2⟩ := ht
    obtain ⟨n, hn⟩ : ∃ n : Nat, (m.c / 3).toNat = n := ⟨_, rfl⟩
    have HN := Lib.hid hn
    have hd : Int.tdiv m.c 3 = (n : Int) := by rw [← hn, Int.tdiv_eq_ediv_of_nonneg (by omega)]; omega
    have hmm : Int.tmod m.c 3 = 0 := by rw [Int.tmod_eq_emod_of_nonneg (by omega)]; omega
    have k1 : IntKind.i64.wrap (n : Int) = (n : Int) := IntWalk.i64_in _ (by omega)
    have HRep := Lib.hid (fun (a : Addr) (c : Nat) (w : World) (hc : w.cell? a = some (.int .i64 3)) => repeat_any a c 3 n (by omega) (by omega) w hc)
    clear hn
    go_enter Try.func48, Try.ntmps48
    go_wp2_with (go_at_call 55; refine (HRep.out _ _ _ (by simp)).mono ?_; rintro e w1 ⟨g, rfl, hg, hb, o1⟩)
    go_ret
    refine ⟨g, ?_, by simp at hg; omega, ?_, ((Only.refl _ _).alloc _).trans (((Only.refl _ _).alloc _).trans o1)⟩
    · rw [HT.out, List.length_replicate, HN.out]; rfl
    · rw [HT.out, HN.out]; exact Row.of_blk hb
  · have HT := Lib.hid (show m.zL = List.replicate m.c.toNat 1 from if_neg ht)
    obtain ⟨n, hn⟩ : ∃ n : Nat, m.c.toNat = n := ⟨_, rfl⟩
    have HN := Lib.hid hn
    have hd : m.c = (n : Int) := by omega
    have HRep := Lib.hid (fun (a : Addr) (c : Nat) (w : World) (hc : w.cell? a = some (.int .i64 1)) => show Calls Try.prog 55 #[.slice (some a) 1 c, .int .i64 m.c] w
      fun e w' => ∃ g, e = .returned (.slice (some ⟨g, 0, none⟩) n n) ∧ w.heap.size ≤ g ∧ Blk w' g 3 ((List.replicate n 1).map (.int .i64)) ∧ Only [] w w' by
        rw [hd]; exact repeat_any a c 1 n (by omega) (by omega) w hc)
    clear hn hd
    by_cases t1 : 8 ≤ m.u
    · have hmm : ¬ m.c % 3 = 0 := fun e => ht ⟨t1, e⟩
      have hm2 : (m.c % 3 == 0) = false := by simpa using hmm
      clear ht
      go_enter Try.func48, Try.ntmps48
      go_wp2_with (go_at_call 55; refine (HRep.out _ _ _ (by simp)).mono ?_; rintro e w1 ⟨g, rfl, hg, hb, o1⟩)
      go_ret
      refine ⟨g, ?_, by simp at hg; omega, ?_, ((Only.refl _ _).alloc _).trans (((Only.refl _ _).alloc _).trans o1)⟩
      · rw [HT.out, List.length_replicate, HN.out]; rfl
      · rw [HT.out, HN.out]; exact Row.of_blk hb
    · clear ht
      go_enter Try.func48, Try.ntmps48
      go_wp2_with (go_at_call 55; refine (HRep.out _ _ _ (by simp)).mono ?_; rintro e w1 ⟨g, rfl, hg, hb, o1⟩)
      go_ret
      refine ⟨g, ?_, by simp at hg; omega, ?_, ((Only.refl _ _).alloc _).trans (((Only.refl _ _).alloc _).trans o1)⟩
      · rw [HT.out, List.length_replicate, HN.out]; rfl
      · rw [HT.out, HN.out]; exact Row.of_blk hb
end Go.Proofs.Ytglkpoiajebleaa
