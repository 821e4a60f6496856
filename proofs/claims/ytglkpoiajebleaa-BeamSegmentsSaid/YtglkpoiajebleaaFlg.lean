/- DERIVED. Contracts of package beam: Flags (under way). -/
import Derived.Test.YtglkpoiajebleaaRis
namespace Go.Proofs.Ytglkpoiajebleaa
open Go.RowKit

/-- A segment. -/
structure Sg where (lv f k hk : Int)
def Sg.vs (x : Sg) : List Value := [.int .i64 x.lv, .int .i64 x.f, .int .i64 x.k, .int .i64 x.hk]
/-- Segments in memory. -/
def SegsAt (w : World) (A : Option Addr) (l : List Sg) : Prop :=
  ∀ i (h : i < l.length), ∃ b off, A = some ⟨b, off, none⟩ ∧ b < w.heap.size ∧ ∀ k (_ : k < 4), w.cell? ⟨b, off + i * 4 + k, none⟩ = (l[i].vs)[k]?
theorem SegsAt.only {w w' : World} {A : Option Addr} {l : List Sg} (h : SegsAt w A l) (o : Only [] w w') : SegsAt w' A l := by
  intro i hi
  obtain ⟨b, off, hA, hb, hc⟩ := h i hi
  have := o.size
  exact ⟨b, off, hA, by omega, fun k hk => (o.cell hb (by simp)).trans (hc k hk)⟩

set_option maxRecDepth 20000 in
set_option maxHeartbeats 4000000 in
theorem Flags_badg (w : World) (A : Option Addr) (n c : Nat) (f k : Int) (h : f < 0 ∨ k ≤ f ∨ 128 ≤ k) :
    Calls Try.prog 14 #[grpV f k, .slice A n c] w fun e w' => e = .returned (.tuple #[.slice none 0 0, .int .i64 2]) ∧ Only [] w w' := by
  by_cases h1 : f < 0
  · go_enter Try.func14, Try.ntmps14
    go_wp2
    go_ret2
    exact ⟨rfl, (Only.refl _ _).alloc _⟩
  · by_cases h2 : k ≤ f
    · go_enter Try.func14, Try.ntmps14
      go_wp2
      go_ret2
      exact ⟨rfl, (Only.refl _ _).alloc _⟩
    · have h3 : 128 ≤ k := by omega
      go_enter Try.func14, Try.ntmps14
      go_wp2
      go_ret2
      exact ⟨rfl, (Only.refl _ _).alloc _⟩

structure Sg.Ok (x : Sg) (F K : Int) : Prop where
  a : F ≤ x.f
  b : x.f ≤ x.k
  c : x.k ≤ K
  d : 1 ≤ x.lv ∧ x.lv ≤ 6

set_option maxRecDepth 20000 in
set_option maxHeartbeats 8000000 in
theorem Flags_bads {w : World} {A : Option Addr} {l : List Sg} (c : Nat) (h : SegsAt w A l) (hl : l.length ≤ 768) (f k : Int) (h1 : 0 ≤ f) (h2 : f < k) (h3 : k < 128) (hbad : ∃ r, ∃ hr : r < l.length, ¬ l[r].Ok f k) :
    Calls Try.prog 14 #[grpV f k, .slice A l.length c] w fun e w' => e = .returned (.tuple #[.slice none 0 0, .int .i64 2]) ∧ Only [] w w' := by
  have HBAD := Lib.hid hbad
  have H := Lib.hid h
  have n1 : ¬ f < 0 := by omega
  have n2 : ¬ k ≤ f := by omega
  have n3 : ¬ 128 ≤ k := by omega
  have n4 : ¬ 768 < l.length := by omega
  have BB := Lib.hid (Blk.new w 40 [.int .i64 f, .int .i64 k])
  have O0 := Lib.hid ((Only.refl [] w).alloc (.cells #[.int .i64 f, .int .i64 k] 40))
  clear hbad h
  go_enter Try.func14, Try.ntmps14
  go_wp2_with fail
  clear n1 n2 n3
  go_loopw [32] (fun i wr => ∃ j : Nat, j ≤ l.length ∧ i = .int .i64 j ∧ Hid (∀ r (hr : r < l.length), r < j → l[r].Ok f k) ∧ Only [] (w.alloc (.cells #[.int .i64 f, .int .i64 k] 40)) wr) (fun i _ => l.length - (intOf i).toNat)
  case atStart => exact ⟨0, by omega, rfl, Lib.hid (fun r _ h2 => absurd h2 (by omega)), Only.refl _ _⟩
  case round =>
    obtain ⟨j, hj, rfl, HA, hO⟩ := hrel
    by_cases hlt : j < l.length
    · obtain ⟨b, off, rfl, hb, hcs⟩ := (H.out.only (O0.out.trans hO)) j hlt
      have m0 := hcs 0 (by omega)
      have m1 := hcs 1 (by omega)
      have m2 := hcs 2 (by omega)
      have m3 := hcs 3 (by omega)
      simp only [Sg.vs, List.getElem?_cons_zero, List.getElem?_cons_succ, Nat.add_zero] at m0 m1 m2 m3
      clear hcs
      obtain ⟨x, hx⟩ : ∃ x, l[j] = x := ⟨_, rfl⟩
      rw [hx] at m0 m1 m2 m3
      have HX := Lib.hid hx
      have j0 : (0 : Int) ≤ (j : Int) := by omega
      have j1 : (j : Int) < (l.length : Int) := by omega
      have BW := (BB.out.only hO (by simp)).alloc (.cells #[.int .i64 x.lv, .int .i64 x.f, .int .i64 x.k, .int .i64 x.hk] 49)
      have q0 := BW.cell 0
      have q1 := BW.cell 1
      simp only [List.getElem?_cons_zero, List.getElem?_cons_succ] at q0 q1
      clear hx BW
      by_cases ca : x.f < f
      · go_wp2_with fail
        go_ret2
        exact ⟨rfl, O0.out.trans (hO.alloc _)⟩
      by_cases cb : x.k < x.f
      · go_wp2_with fail
        go_ret2
        exact ⟨rfl, O0.out.trans (hO.alloc _)⟩
      by_cases cc : k < x.k
      · go_wp2_with fail
        go_ret2
        exact ⟨rfl, O0.out.trans (hO.alloc _)⟩
      by_cases cd : 1 ≤ x.lv ∧ x.lv ≤ 6
      · have CD := Lib.hid cd
        clear cd
        have HA2 := Lib.hid (show ∀ r (hr : r < l.length), r < j + 1 → l[r].Ok f k from fun r hr h => by
          by_cases e : r = j
          · subst e; rw [HX.out]; exact ⟨by omega, by omega, by omega, CD.out⟩
          · exact HA.out r hr (by omega))
        go_wp2_with (go_at_call 27; with_reducible refine (in_yes CD.out _).mono ?_; rintro e w' ⟨rfl, rfl⟩)
        go_roundw
        case rel => exact ⟨j + 1, by omega, by go_num, HA2, hO.alloc _⟩
        case measure => simp [intOf]; omega
      · have CD := Lib.hid cd
        clear cd
        go_wp2_with (go_at_call 27; with_reducible refine (in_no CD.out _).mono ?_; rintro e w' ⟨rfl, rfl⟩)
        go_ret2
        exact ⟨rfl, O0.out.trans (hO.alloc _)⟩
    · exact absurd HBAD.out (by
        rintro ⟨r, hr, hn⟩
        exact hn (HA.out r hr (by omega)))
end Go.Proofs.Ytglkpoiajebleaa
