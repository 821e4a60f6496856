/- DERIVED. slices.DeleteFunc of a row whose zeros stand at its end; the groups of a metre where some are given. -/
import Derived.Test.YtglkpoiajebleaaBts
import Derived.Lib.SliceRun
namespace Go.Proofs.Ytglkpoiajebleaa
open Go.RowKit

set_option maxRecDepth 20000 in
set_option maxHeartbeats 400000 in
theorem isz_fn (a : Int) (w : World) : Calls Try.prog 54 #[.int .i64 a] w fun e w' => e = .returned (.bool (a == 0)) ∧ w = w' := by
  go_enter Try.func54, Try.ntmps54
  go_wp2
  go_ret
  exact ⟨rfl, rfl⟩

/-- slices.IndexFunc: the first zero of six, at n (six: none). -/
theorem ixf_any (g n : Nat) (c : Nat) (l : List Int) (hl : l.length = 6) (hn : n ≤ 6) (h1 : ∀ i (h : i < l.length), i < n → l[i] ≠ 0) (h2 : ∀ i (h : i < l.length), n ≤ i → l[i] = 0) (w : World) (hr : Row w g l) :
    Calls Try.prog 57 #[.slice (some ⟨g, 0, none⟩) 6 c, .func (.func 54) #[] #[]] w fun e w' => e = .returned (.int .i64 (if n < 6 then (n : Int) else -1)) ∧ Only [] w w' := by
  have HH := Lib.hid (show ∀ j (h : j < l.length), (j < n → l[j] ≠ 0) ∧ (n ≤ j → l[j] = 0) from fun j h => ⟨h1 j h, h2 j h⟩)
  have HR := Lib.hid hr
  have HL := Lib.hid hl
  obtain ⟨R, hR⟩ : ∃ R, (if n < 6 then (n : Int) else -1) = R := ⟨_, rfl⟩
  rw [hR]
  have HRR := Lib.hid hR
  clear h1 h2 hr hl hR
  go_enter Try.func57, Try.ntmps57
  go_wp2_with fail
  go_loopw [8] (fun i wr => ∃ j : Nat, j ≤ 6 ∧ j ≤ n ∧ i = .int .i64 j ∧ Only [] w wr) (fun i _ => 6 - (intOf i).toNat)
  case atStart => exact ⟨0, by omega, by omega, rfl, Only.refl _ _⟩
  case round =>
    obtain ⟨j, hj, hjn, rfl, hO⟩ := hrel
    have HO := Lib.hid hO
    by_cases hlt : j < 6
    · have hjl : j < l.length := by rw [HL.out]; exact hlt
      have cj := (HR.out.only hO) j hjl
      have hv1 := HH.out j hjl
      obtain ⟨x, hx⟩ : ∃ x, l[j] = x := ⟨_, rfl⟩
      rw [hx] at cj hv1
      have j0 : (0 : Int) ≤ (j : Int) := by omega
      have j1 : (j : Int) < 6 := by omega
      clear hx hO hjl
      by_cases hjn2 : j < n
      · have hz : (x == 0) = false := by simpa using hv1.1 hjn2
        clear hv1
        have HJ := Lib.hid hjn2
        go_wp2_with (go_at_call 54; refine (isz_fn _ _).mono ?_; rintro e w' ⟨rfl, rfl⟩)
        go_roundw
        case rel => exact ⟨j + 1, by omega, by have := HJ.out; omega, by go_num, HO.out⟩
        case measure => simp [intOf]; omega
      · have hz : (x == 0) = true := by simpa using hv1.2 (by omega)
        have HE := Lib.hid (show R = (j : Int) by rw [← HRR.out, if_pos (by omega)]; omega)
        clear hv1
        go_wp2_with (go_at_call 54; refine (isz_fn _ _).mono ?_; rintro e w' ⟨rfl, rfl⟩)
        go_ret
        exact ⟨ret_int HE.out.symm, HO.out⟩
    · have HE := Lib.hid (show R = -1 by rw [← HRR.out, if_neg (by omega)])
      have j1 : ¬ (j : Int) < 6 := by omega
      clear hO
      go_wp2_with fail
      go_ret
      exact ⟨ret_int HE.out.symm, HO.out⟩

theorem Only.setCells {S : List Nat} {a : World} {g : Nat} (hg : g ∈ S ∨ a.heap.size ≤ g) : ∀ (vs : List Value) (o : Nat) {w : World}, Only S a w → Only S a (w.setCells g o vs)
  | [], _, _, h => h
  | v :: r, o, w, h => by
    rw [World.setCells]
    exact Only.setCells hg r (o + 1) (h.setCell (p := ⟨g, o, none⟩) hg v)
theorem Row.clear {w : World} {g n : Nat} {l : List Int} (hl : l.length = 6) (hn : n ≤ 6) (h2 : ∀ i (h : i < l.length), n ≤ i → l[i] = 0) (hr : Row w g l) : Row (w.setCells g n (List.replicate (6 - n) (.int .i64 0))) g l := fun i hi => by
  by_cases h : i < n
  · rw [World.cell?_setCells_out g _ _ _ _ (fun _ _ => .inl h)]
    exact hr i hi
  · have e := World.cell?_setCells_in g (List.replicate (6 - n) (.int .i64 0)) n w (fun j hj => by
      have hj' : n + j < l.length := by simp at hj; omega
      rw [hr (n + j) hj']; rfl) (i - n) (by simp; omega)
    rw [show n + (i - n) = i by omega] at e
    rw [e, h2 i hi (by omega)]
    simp
set_option maxRecDepth 20000 in
set_option maxHeartbeats 1000000 in
/-- slices.DeleteFunc of six, of which those from n on are zeros: the first n. -/
theorem del_any (g n : Nat) (c : Nat) (hc : 6 ≤ c) (l : List Int) (hl : l.length = 6) (hn : n ≤ 6) (h1 : ∀ i (h : i < l.length), i < n → l[i] ≠ 0) (h2 : ∀ i (h : i < l.length), n ≤ i → l[i] = 0) (w : World) (hr : Row w g l) (hfz : ∀ w', Only [] w w' → ∀ i, w'.frozen? ⟨g, i, none⟩ = false) :
    Calls Try.prog 52 #[.slice (some ⟨g, 0, none⟩) 6 c, .func (.func 54) #[] #[]] w fun e w' => e = .returned (.slice (some ⟨g, 0, none⟩) n c) ∧ Row w' g l ∧ Only [g] w w' := by
  have HI := Lib.hid (ixf_any g n c l hl hn h1 h2 w hr)
  by_cases h6 : n < 6
  · rw [if_pos h6] at HI
    have HR := Lib.hid hr
    have HL := Lib.hid hl
    have H2 := Lib.hid h2
    have HFZ := Lib.hid hfz
    have n0 : ((n : Int) == -1) = false := by simp
    clear h1 h2 hr hl
    go_enter Try.func52, Try.ntmps52
    go_wp2_with (go_at_call 57; refine HI.out.mono ?_; rintro e w1 ⟨rfl, o1⟩)
    have HN := Lib.hid h6
    have HR1 := Lib.hid (HR.out.only o1)
    go_loopw [5, 6] (fun q i wr => ∃ j : Nat, n + 1 ≤ j ∧ j ≤ 6 ∧ i = .int .i64 j ∧ q = .int .i64 n ∧ Only [] w1 wr) (fun _ i _ => 6 - (intOf i).toNat)
    case atStart => exact ⟨n + 1, by omega, by omega, by go_num, rfl, Only.refl _ _⟩
    case round =>
      obtain ⟨j, hj1, hj, rfl, rfl, hO⟩ := hrel
      have HO := Lib.hid hO
      by_cases hlt : j < 6
      · have hjl : j < l.length := by rw [HL.out]; exact hlt
        have cj := (HR1.out.only hO) j hjl
        rw [H2.out j hjl (by omega)] at cj
        have j0 : (0 : Int) ≤ (j : Int) := by omega
        have j1 : (j : Int) < 6 := by omega
        clear hO hjl
        go_wp2_with (go_at_call 54; refine (isz_fn _ _).mono ?_; rintro e w' ⟨rfl, rfl⟩)
        go_roundw
        case rel => exact ⟨j + 1, by omega, by omega, by go_num, rfl, HO.out⟩
        case measure => simp [intOf]; omega
      · have hrw := HR1.out.only hO
        have hcl : ∀ ty, (Builtin.clear_ #[45] ty #[.slice (some ⟨g, n, none⟩) (6 - n) (c - n)]).run Try.prog wr = .ok (.tuple #[]) (wr.setCells g n (List.replicate (6 - n) (.int .i64 0))) :=
          fun ty => Lib.run_clear_slice wr _ _ ty _ Try.underlying45 Try.zeroValue3 rfl rfl g n _ _ (by omega) (fun k hk => by rw [hrw (n + k) (by rw [HL.out]; omega)]; rfl) (fun k hk => HFZ.out wr (o1.trans hO) (n + k))
        have HRC := Lib.hid (Row.clear HL.out (by omega) H2.out hrw)
        have HOC := Lib.hid (Only.setCells (S := [g]) (g := g) (.inl (by simp)) (List.replicate (6 - n) (.int .i64 0)) n ((o1.trans hO).more (T := [g]) (by simp)))
        have j1 : ¬ (j : Int) < 6 := by omega
        have n1 : (n : Int) ≤ 6 := by omega
        have n2 : (0 : Int) ≤ (n : Int) := by omega
        have n3 : (n : Int) ≤ (c : Int) := by omega
        clear hO hrw
        go_wp2_with fail
        go_ret
        exact ⟨rfl, HRC.out, HOC.out⟩
  · obtain rfl : n = 6 := by omega
    rw [if_neg h6] at HI
    have HR := Lib.hid hr
    clear h1 h2 hr hl hn
    go_enter Try.func52, Try.ntmps52
    go_wp2_with (go_at_call 57; refine HI.out.mono ?_; rintro e w1 ⟨rfl, o1⟩)
    go_ret
    exact ⟨rfl, HR.out.only o1, o1.more (by simp)⟩

/-- The groups that are given: the ones ahead of the first zero. -/
def posL (l : List Int) : List Int := l.takeWhile fun g => decide (g ≠ 0)
theorem grpL_pos : ∀ (l : List Int) (i s n : Int), (∃ r, grpL l i s n = some r) → n ≤ i → (n < i → ∀ x ∈ l, x = 0) ∧ (∀ x ∈ l, 0 ≤ x ∧ x ≤ 64)
  | [], _, _, _, _, _ => ⟨fun _ x hx => by simp at hx, fun x hx => by simp at hx⟩
  | g :: r, i, s, n, ⟨q, h⟩, hi => by
    rw [grpL] at h
    by_cases hb : g < 0 ∨ 64 < g ∨ (0 < g ∧ i ≠ n)
    · rw [if_pos hb] at h; cases h
    · rw [if_neg hb] at h
      by_cases hg : 0 < g
      · rw [if_pos hg] at h
        have ih := grpL_pos r (i + 1) (s + g) (n + 1) ⟨q, h⟩ (by omega)
        refine ⟨fun hlt => absurd hb (by omega), fun x hx => ?_⟩
        rcases List.mem_cons.1 hx with rfl | hx
        · omega
        · exact ih.2 x hx
      · rw [if_neg hg] at h
        have ih := grpL_pos r (i + 1) s n ⟨q, h⟩ (by omega)
        refine ⟨fun _ x hx => ?_, fun x hx => ?_⟩
        · rcases List.mem_cons.1 hx with rfl | hx
          · omega
          · exact ih.1 (by omega) x hx
        · rcases List.mem_cons.1 hx with rfl | hx
          · omega
          · exact ih.2 x hx
theorem grpL_zero : ∀ (l : List Int) (i s n : Int), (∃ r, grpL l i s n = some r) → n ≤ i → ∀ k (h : k < l.length), (posL l).length ≤ k → l[k] = 0
  | [], _, _, _, _, _, k, h, _ => absurd h (by simp)
  | g :: r, i, s, n, ⟨q, h⟩, hi, k, hk, hp => by
    have h0 := grpL_pos (g :: r) i s n ⟨q, h⟩ hi
    rw [grpL] at h
    by_cases hb : g < 0 ∨ 64 < g ∨ (0 < g ∧ i ≠ n)
    · rw [if_pos hb] at h; cases h
    · rw [if_neg hb] at h
      by_cases hg : 0 < g
      · rw [if_pos hg] at h
        have e : posL (g :: r) = g :: posL r := by simp [posL, show ¬ g = 0 by omega]
        rw [e] at hp
        simp only [List.length_cons] at hp
        obtain ⟨k, rfl⟩ : ∃ j, k = j + 1 := ⟨k - 1, by omega⟩
        simpa using grpL_zero r (i + 1) (s + g) (n + 1) ⟨q, h⟩ (by omega) k (by simpa using hk) (by omega)
      · rw [if_neg hg] at h
        have ih := grpL_pos r (i + 1) s n ⟨q, h⟩ (by omega)
        cases k with
        | zero => simp only [List.getElem_cons_zero]; omega
        | succ k =>
          simp only [List.getElem_cons_succ]
          exact ih.1 (by omega) _ (List.getElem_mem _)
theorem posL_cons (g : Int) (r : List Int) : posL (g :: r) = if g = 0 then [] else g :: posL r := by
  by_cases h : g = 0
  · simp [posL, h]
  · simp [posL, h]
theorem posL_take : ∀ l : List Int, posL l = l.take (posL l).length
  | [] => rfl
  | g :: r => by
    rw [posL_cons]
    by_cases h : g = 0
    · rw [if_pos h]; rfl
    · rw [if_neg h, List.length_cons, List.take_succ_cons, ← posL_take r]
theorem posL_ne : ∀ (l : List Int), ∀ x ∈ posL l, x ≠ 0
  | [], x, hx => by simp [posL] at hx
  | g :: r, x, hx => by
    rw [posL_cons] at hx
    by_cases h : g = 0
    · rw [if_pos h] at hx; simp at hx
    · rw [if_neg h] at hx
      rcases List.mem_cons.1 hx with rfl | hx
      · exact h
      · exact posL_ne r x hx
theorem posL_mem (l : List Int) : ∀ x ∈ posL l, x ∈ l := fun x hx => by
  rw [posL_take] at hx
  exact List.mem_of_mem_take hx
theorem posL_len (l : List Int) : (posL l).length ≤ l.length := by
  have := congrArg List.length (posL_take l)
  rw [List.length_take] at this
  omega
theorem Met.grpL_of {m : Met} (h : m.chk = 0) (hz : m.z = false) : ∃ r, grpL m.gs 0 0 0 = some r := by
  unfold Met.chk at h
  by_cases h1 : m.c < 1 ∨ 64 < m.c
  · rw [if_pos h1] at h; omega
  rw [if_neg h1] at h
  by_cases h2 : m.u < 1 ∨ 64 < m.u ∨ bits BinOp.and IntKind.i64 m.u (m.u - 1) ≠ 0
  · rw [if_pos h2] at h; omega
  rw [if_neg h2] at h
  by_cases h3 : m.grp = true
  · unfold Met.grp at h3
    rw [hz, Bool.false_or] at h3
    cases hg : grpL m.gs 0 0 0 with
    | none => rw [hg] at h3; simp [grpE] at h3
    | some r => exact ⟨r, rfl⟩
  · rw [if_neg h3] at h; omega

theorem met_at (m : Met) (j : Nat) (h : j < m.gs.length) : (metL m)[2 + j]? = some (.int .i64 (m.gs.getD j 0)) := by
  have h6 : j < 6 := h
  match j, h6 with
  | 0, _ => rfl
  | 1, _ => rfl
  | 2, _ => rfl
  | 3, _ => rfl
  | 4, _ => rfl
  | 5, _ => rfl
theorem own_six {w : World} {base : Nat} {v : Value} (q : List Int) (h : w.ownsRow base 3 1 v 6 (q.map (.int .i64))) :
    ∃ g cap, v = .slice (some ⟨g, 0, none⟩) 6 cap ∧ base ≤ g ∧ 6 ≤ cap ∧ Row w g q ∧ ∀ w', Only [] w w' → ∀ i, w'.frozen? ⟨g, i, none⟩ = false := by
  have hl : q.length = 6 := by have := h.1; simpa using this
  rcases h.2 with ⟨_, h0⟩ | ⟨g, cap, cur, rfl, hb, hg, h1, h2, h3, hr⟩
  · omega
  · refine ⟨g, cap, rfl, hb, h1, fun i hi => ?_, fun w' o i => ?_⟩
    · rw [h.cellAt i (by omega)]
      simp [hi]
    · have hlt := (Array.getElem?_eq_some_iff.1 hg).1
      have := (o.block g hlt (by simp)).trans hg
      simp [World.frozen?, this]

set_option maxRecDepth 20000 in
set_option maxHeartbeats 4000000 in
theorem groups_g (m : Met) (hk : m.chk = 0) (hz : m.z = false) : GrpC m (posL m.gs) := by
  intro w
  obtain ⟨r, hr⟩ := Met.grpL_of hk hz
  have hl6 : m.gs.length = 6 := rfl
  have HZ := Lib.hid (grpL_zero m.gs 0 0 0 ⟨r, hr⟩ (Int.le_refl _))
  have HNZ := Lib.hid (show ∀ i (h : i < m.gs.length), i < (posL m.gs).length → m.gs[i] ≠ 0 from fun i h hi => by
    have e : m.gs[i] = (posL m.gs)[i] := by
      have := List.getElem_of_eq (posL_take m.gs) hi
      rw [this, List.getElem_take]
    rw [e]
    exact posL_ne _ _ (List.getElem_mem _))
  have HN6 := Lib.hid (show (posL m.gs).length ≤ 6 by have := posL_len m.gs; omega)
  have HTK := Lib.hid (show ∀ i (h : i < (posL m.gs).length) (h' : i < m.gs.length), (posL m.gs)[i] = m.gs[i] from fun i h h' => by
    have := List.getElem_of_eq (posL_take m.gs) h
    rw [this, List.getElem_take])
  have HCL := Lib.hid fun w2 (b : Nat) (h : ∀ j, j < m.gs.length → w2.cell? ⟨b, 2 + j, none⟩ = some (.int .i64 (m.gs.getD j 0))) => Try.slices_Clone_int b 2 6 6 m.gs w2 (by omega) (by omega) h
  have BB := Lib.hid (Blk.new w 36 (metL m))
  have hz' := hz
  unfold Met.z at hz'
  clear hr hk hz
  go_enter Try.func48, Try.ntmps48
  go_wp2_with (first
    | (go_at_call 53; refine (HCL.out _ w.heap.size (fun j hj => (BB.out.cell (2 + j)).trans (met_at m j hj))).mono ?_; rintro e w1 ⟨v, rfl, hown, -, hbl⟩; obtain ⟨g, cap, rfl, hg1, hg2, hrow, hfz⟩ := own_six m.gs hown; have HO1 := Lib.hid (Only.of_below hbl []); have HROW := Lib.hid hrow; have HFZ := Lib.hid hfz)
    | (go_at_call 52; refine (del_any g (posL m.gs).length cap hg2 m.gs hl6 HN6.out HNZ.out HZ.out _ HROW.out HFZ.out).mono ?_; rintro e w2 ⟨rfl, hr2, o2⟩))
  have hsw : w.heap.size ≤ g := by simp only [World.size_alloc] at hg1; omega
  go_ret
  refine ⟨g, cap, rfl, hsw, fun i hi => ?_, (((Only.refl [] w).alloc _).trans HO1.out).more (T := [g]) (by simp) |>.trans o2 |>.less (fun k hk hlt => ?_)⟩
  · have hi' : i < m.gs.length := by have := posL_len m.gs; omega
    rw [HTK.out i hi hi']
    exact hr2 i hi'
  · simp only [List.mem_singleton] at hk
    omega
end Go.Proofs.Ytglkpoiajebleaa
