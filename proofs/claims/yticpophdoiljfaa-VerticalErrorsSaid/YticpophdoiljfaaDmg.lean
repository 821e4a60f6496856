/- DERIVED. Vertical: damaged staves; the errors of checkGaps, Distances, Stack, Spread. -/
import Derived.Test.YticpophdoiljfaaGch
import Derived.Test.YticpophdoiljfaaSpd
namespace Go.Proofs.Yticpophdoiljfaa
open Go.RowKit
attribute [local go_sem ↓] Go.wp_at_zero Go.wp_at_succ

/-- The staves' block. -/
structure GBlk (w : World) (k : Nat) (l : List GS) : Prop where
  blk : ∃ cs : List Value, Blk w k 50 cs ∧ ∀ i (hi : i < l.length) j, j < 3 → cs[i * 3 + j]? = (l[i]).cells[j]?
theorem GBlk.cell {w : World} {k : Nat} {l : List GS} (h : GBlk w k l) (i : Nat) (hi : i < l.length) (j : Nat) (u : Value) (hu : (l[i]).cells[j]? = some u) : w.cell? ⟨k, i * 3 + j, none⟩ = some u := by
  obtain ⟨cs, hb, hc⟩ := h.blk
  have hj : j < 3 := by
    have := (List.getElem?_eq_some_iff.1 hu).1
    simpa [GS.cells] using this
  rw [hb.cell, hc i hi j hj, hu]
theorem GBlk.frozen {w : World} {k : Nat} {l : List GS} (h : GBlk w k l) (i : Nat) : w.frozen? ⟨k, i, none⟩ = false := by
  obtain ⟨cs, hb, _⟩ := h.blk
  exact hb.frozen i
theorem GBlk.lt {w : World} {k : Nat} {l : List GS} (h : GBlk w k l) : k < w.heap.size := by
  obtain ⟨cs, hb, _⟩ := h.blk
  exact hb.lt
theorem GBlk.only {w w' : World} {k : Nat} {l : List GS} {S : List Nat} (h : GBlk w k l) (ho : Only S w w') (hk : k ∉ S) : GBlk w' k l := by
  obtain ⟨cs, hb, hc⟩ := h.blk
  exact ⟨cs, hb.only ho hk, hc⟩
theorem GBlk.set {w : World} {k : Nat} {l : List GS} (h : GBlk w k l) (i f : Nat) (hi : i < l.length) (hf : f < 3) (u : Value) (r : GS) (hr : r.cells = (l[i]).cells.set f u) : GBlk (w.setCell ⟨k, i * 3 + f, none⟩ u) k (l.set i r) := by
  obtain ⟨cs, hb, hc⟩ := h.blk
  refine ⟨cs.set (i * 3 + f) u, hb.set_ _ u, fun q hq j hj => ?_⟩
  rw [List.length_set] at hq
  have h1 := hc q hq j hj
  have h3 : j < (l[q]).cells.length := by simp [GS.cells]; exact hj
  have h4 : q * 3 + j < cs.length := by
    rw [List.getElem?_eq_getElem h3] at h1
    exact (List.getElem?_eq_some_iff.1 h1).1
  rw [List.getElem?_set, List.getElem_set]
  by_cases e : i = q
  · subst e
    rw [if_pos rfl, hr, List.getElem?_set]
    by_cases c : f = j
    · subst c
      rw [if_pos rfl, if_pos rfl, if_pos h4, if_pos h3]
    · rw [if_neg (by omega), if_neg c, h1]
  · rw [if_neg (by omega), if_neg e, h1]

/-- A good staff. -/
def toGS (n : Nat) (r : StaffR) : GS := ⟨some ⟨r.sa, 0, none⟩, some ⟨r.sb, 0, none⟩, some (1, n), some (-1, n), r.v.part⟩
theorem toGS_cells (n : Nat) (r : StaffR) : (toGS n r).cells = r.cells := rfl
theorem gblk_of_own {w : World} {base k cap n : Nat} {l : List StaffR} (h : w.ownsRow base 50 3 (.slice (some ⟨k, 0, none⟩) l.length cap) l.length (rowOf l)) : GBlk w k (l.map (toGS n)) := by
  rcases h.2 with ⟨h1, _⟩ | ⟨g', cap', cur, he, hb, hg, _, _, _, hx⟩
  · cases h1
  · simp only [Value.slice.injEq, Option.some.injEq, Addr.mk.injEq] at he
    obtain ⟨⟨rfl, -, -⟩, -, -⟩ := he
    refine ⟨cur.toList, by unfold Blk; simpa using hg, fun i hi j hj => ?_⟩
    rw [List.length_map] at hi
    have h2 := rowOf_get l i j hi hj
    rw [← hx, List.getElem?_take, if_pos (by omega)] at h2
    rw [h2, List.getElem_map, toGS_cells]
theorem sky_pt {w : World} {B n : Nat} {r : StaffR} (h : StaffOK w B n r) : SkyPt w (toGS n r).a (toGS n r).da ∧ SkyPt w (toGS n r).b (toGS n r).db :=
  ⟨⟨r.sa, r.ga, r.v.ha, rfl, h.above, h.la⟩, ⟨r.sb, r.gb, r.v.hb, rfl, h.below, h.lb⟩⟩
theorem SkyPt.far {w : World} {p : Option Addr} {d : Option (Int × Nat)} {k : Nat} {cs : List Value} (h : SkyPt w p d) (hb : Blk w k 50 cs) (i : Nat) (u : Value) : SkyPt (w.setCell ⟨k, i, none⟩ u) p d := by
  match d with
  | none => exact h
  | some (sd, n) =>
    obtain ⟨s, g, l, hp, hs, hn⟩ := h
    have o : Only [k] w (w.setCell ⟨k, i, none⟩ u) := (Only.refl [k] w).setCell (p := ⟨k, i, none⟩) (.inl (by simp)) u
    have h1 : s ≠ k := hs.head.ne_ hb (by decide)
    have h2 : g ≠ k := hs.row.ne_ hb (by decide)
    exact ⟨s, g, l, hp, hs.only o (by simpa using h1) (by simpa using h2), hn⟩
/-- Staves of which one is another one. -/
theorem gst_set {w : World} {k n : Nat} {l : List StaffR} (h : Stv w k l n) (hb : GBlk w k (l.map (toGS n))) (i f : Nat) (hi : i < l.length) (hf : f < 3) (u : Value) (r : GS) (hr : r.cells = (l[i]).cells.set f u)
    (h1 : SkyPt w r.a r.da) (h2 : SkyPt w r.b r.db) (h3 : -1 ≤ r.part ∧ r.part ≤ 100000) : GStv (w.setCell ⟨k, i * 3 + f, none⟩ u) k ((l.map (toGS n)).set i r) := by
  have hB := hb.set i f (by simpa using hi) hf u r (by rw [hr, List.getElem_map, toGS_cells])
  obtain ⟨cs, hc, _⟩ := hb.blk
  refine ⟨fun q hq j v hv => hB.cell q hq j v hv, hB.lt, fun q hq => ?_, by simpa using h.pos, by simpa using h.few, fun q hq => ?_⟩
  · simp only [List.length_set, List.length_map] at hq
    rw [List.getElem_set]
    split
    · exact ⟨h1.far hc _ _, h2.far hc _ _⟩
    · rw [List.getElem_map]
      have := sky_pt (h.ok q hq)
      exact ⟨this.1.far hc _ _, this.2.far hc _ _⟩
  · simp only [List.length_set, List.length_map] at hq
    rw [List.getElem_set]
    split
    · exact h3
    · rw [List.getElem_map]
      have := h.part q hq
      simp only [toGS]
      omega
theorem chk_good {l : List GS} {n : Nat} (h0 : colOf (l.getD 0 ⟨none, none, none, none, 0⟩).da = n) : ∀ j, j ≤ l.length →
    (∀ i (hi : i < l.length), i < j → l[i].da = some (1, n) ∧ l[i].db = some (-1, n) ∧ 0 ≤ l[i].part ∧ ∀ p, prevOf l i = some p → p ≤ l[i].part) → chkTo l j = 0
  | 0, _, _ => rfl
  | j + 1, hj, h => by
    have ih := chk_good h0 j (by omega) (fun i hi hij => h i hi (by omega))
    obtain ⟨h1, h2, h3, h4⟩ := h j (by omega) (by omega)
    rw [chkTo, if_pos ih, chkAt, h0, gget (show j < l.length by omega)]
    unfold chkS
    rw [h1, h2]
    cases hp : prevOf l j with
    | none => simp; omega
    | some p =>
      have := h4 p hp
      simp
      omega
/-- The error of staves of which one, with index i, is damaged. -/
theorem chk_set {n : Nat} {l : List StaffR} (hz : ∀ i (hi : i < l.length), l[i].v.part = 0) (i : Nat) (hi : i < l.length) (r : GS) (e : Int) (hc : i = 0 → colOf r.da = n ∨ ∀ c, chkS c none r = e)
    (he : ∀ p, (p = none ∨ p = some 0) → chkS n p r = e) (hne : e ≠ 0) : chk ((l.map (toGS n)).set i r) = e := by
  have hlen : ((l.map (toGS n)).set i r).length = l.length := by simp
  have hget : ∀ q (hq : q < l.length), q ≠ i → ((l.map (toGS n)).set i r).getD q ⟨none, none, none, none, 0⟩ = toGS n l[q] := fun q hq hqi => by
    rw [gget (by rw [hlen]; exact hq), List.getElem_set, if_neg (Ne.symm hqi), List.getElem_map]
  have hgi : ((l.map (toGS n)).set i r).getD i ⟨none, none, none, none, 0⟩ = r := by
    rw [gget (by rw [hlen]; exact hi), List.getElem_set, if_pos rfl]
  have hprev : prevOf ((l.map (toGS n)).set i r) i = none ∨ prevOf ((l.map (toGS n)).set i r) i = some 0 := by
    match i, hi, hget with
    | 0, _, _ => exact .inl rfl
    | q + 1, hi, hget =>
      right
      rw [prevOf, hget q (by omega) (by omega)]
      simp [toGS, hz q (by omega)]
  by_cases h0 : i = 0
  · subst h0
    refine chk_first (j := 0) (by rw [hlen]; exact hi) rfl ?_ hne
    rw [chkAt, hgi]
    rcases hc rfl with h1 | h1
    · rw [h1]
      exact he _ (.inl rfl)
    · exact h1 _
  · have hcol : colOf (((l.map (toGS n)).set i r).getD 0 ⟨none, none, none, none, 0⟩).da = n := by
      rw [hget 0 (by omega) (Ne.symm h0)]
      rfl
    refine chk_first (j := i) (by rw [hlen]; exact hi) (chk_good hcol i (by rw [hlen]; omega) fun q hq hqi => ?_) ?_ hne
    · have h1 := hget q (by omega) (by omega)
      rw [gget hq] at h1
      rw [h1]
      refine ⟨rfl, rfl, by simp [toGS, hz q (by omega)], fun p hp => ?_⟩
      match q, hp with
      | q + 1, hp =>
        rw [prevOf, hget q (by omega) (by omega)] at hp
        simp [toGS, hz q (by omega)] at hp
        simp [toGS, hz (q + 1) (by omega), ← hp]
    · rw [chkAt, hcol, hgi]
      exact he _ hprev
/-- The part of the first staff is 3: the second one is out of order. -/
theorem chk_three {n : Nat} {l : List StaffR} (hz : ∀ i (hi : i < l.length), l[i].v.part = 0) (h2 : 2 ≤ l.length) (r : GS) (hr : r = { toGS n (l[0]'(by omega)) with part := 3 }) : chk ((l.map (toGS n)).set 0 r) = 25 := by
  have hlen : ((l.map (toGS n)).set 0 r).length = l.length := by simp
  have hg0 : ((l.map (toGS n)).set 0 r).getD 0 ⟨none, none, none, none, 0⟩ = r := by
    rw [gget (by rw [hlen]; omega), List.getElem_set, if_pos rfl]
  have hg1 : ((l.map (toGS n)).set 0 r).getD 1 ⟨none, none, none, none, 0⟩ = toGS n l[1] := by
    rw [gget (by rw [hlen]; omega), List.getElem_set, if_neg (by omega), List.getElem_map]
  have hcol : colOf (((l.map (toGS n)).set 0 r).getD 0 ⟨none, none, none, none, 0⟩).da = n := by rw [hg0, hr]; rfl
  refine chk_first (j := 1) (by rw [hlen]; omega) (chk_good hcol 1 (by rw [hlen]; omega) fun q hq hqi => ?_) ?_ (by decide)
  · obtain rfl : q = 0 := by omega
    rw [gget hq] at hg0
    rw [hg0, hr]
    exact ⟨rfl, rfl, by simp, fun p hp => by cases hp⟩
  · rw [chkAt, hcol, hg1, prevOf, hg0, hr]
    simp [chkS, toGS, hz 1 (by omega)]
theorem parts_zero {X : List (List (Int × Int))} {l : List StaffR} (hL : l.map StaffR.v = svs X []) (i : Nat) (hi : i < l.length) : l[i].v.part = 0 := by
  have hp : ∀ j, partTo [] j = 0 := fun j => by induction j with
    | zero => rfl
    | succ j ih => rw [partTo, ih]; simp
  have hlen : l.length = min X.length 6 := by have := congrArg List.length hL; rw [svs_len] at this; simpa using this
  have h1 : (l.map StaffR.v)[i]? = some l[i].v := by simp [hi]
  rw [hL] at h1
  simp only [svs] at h1
  rw [List.getElem?_map, List.getElem?_range (show i < min X.length 6 by omega)] at h1
  rw [← Option.some.inj h1]
  simp [svOf, hp]

/-! The errors. -/
def ErrC (w : World) (s : Value) (E : Int) : Prop := ∀ W, Only [] w W → Calls Try.prog 34 #[s] W fun e w' => e = .returned (.int .i64 E) ∧ Only [] W w'
def ErrG (w : World) (s : Value) (gap least E : Int) : Prop := ∀ W, Only [] w W → Calls Try.prog 37 #[s, .int .i64 gap, .int .i64 least] W fun e w' => e = .returned (.int .i64 E) ∧ Only [] W w'
set_option maxRecDepth 20000 in
set_option maxHeartbeats 1000000 in
theorem gaps_chk {w : World} {A : Option Addr} {n c : Nat} {E : Int} (h : ErrC w (.slice A n c) E) (hE : E ≠ 0) (gap least : Int) : ErrG w (.slice A n c) gap least E := fun W hW => by
  have H := Lib.hid (h W hW)
  have e1 : (E != 0) = true := by simpa using hE
  have HE := Lib.hid hE
  clear hE h hW
  go_enter Try.func37, Try.ntmps37
  go_wp2_with (go_at_call 34; refine H.out.mono ?_; rintro e w1 ⟨rfl, ho⟩)
  go_ret
  exact ⟨rfl, ho⟩
set_option maxRecDepth 20000 in
set_option maxHeartbeats 1000000 in
theorem gaps_rng {w : World} {A : Option Addr} {n c : Nat} (h : ErrC w (.slice A n c) 0) (gap least : Int) (hb : gap < 0 ∨ 65536 < gap ∨ least < 1 ∨ 65536 < least) : ErrG w (.slice A n c) gap least 2 := fun W hW => by
  have H := Lib.hid (h W hW)
  clear h hW
  by_cases h1 : gap < 0
  · have d1 : decide (gap < 0) = true := by simpa using h1
    go_enter Try.func37, Try.ntmps37
    go_wp2_with (go_at_call 34; refine H.out.mono ?_; rintro e w1 ⟨rfl, ho⟩)
    go_ret
    exact ⟨rfl, ho⟩
  · have d1 : decide (gap < 0) = false := by simpa using h1
    by_cases h2 : 65536 < gap
    · have d2 : decide (65536 < gap) = true := by simpa using h2
      go_enter Try.func37, Try.ntmps37
      go_wp2_with (go_at_call 34; refine H.out.mono ?_; rintro e w1 ⟨rfl, ho⟩)
      go_ret
      exact ⟨rfl, ho⟩
    · have d2 : decide (65536 < gap) = false := by simpa using h2
      by_cases h3 : least < 1
      · have d3 : decide (least < 1) = true := by simpa using h3
        go_enter Try.func37, Try.ntmps37
        go_wp2_with (go_at_call 34; refine H.out.mono ?_; rintro e w1 ⟨rfl, ho⟩)
        go_ret
        exact ⟨rfl, ho⟩
      · have d3 : decide (least < 1) = false := by simpa using h3
        have h4 : 65536 < least := by omega
        have d4 : decide (65536 < least) = true := by simpa using h4
        clear hb
        go_enter Try.func37, Try.ntmps37
        go_wp2_with (go_at_call 34; refine H.out.mono ?_; rintro e w1 ⟨rfl, ho⟩)
        go_ret
        exact ⟨rfl, ho⟩
set_option maxRecDepth 20000 in
set_option maxHeartbeats 1000000 in
theorem Distances_err {w : World} {A : Option Addr} {n c : Nat} {gap least E : Int} (h : ErrG w (.slice A n c) gap least E) (hE : E ≠ 0) (W : World) (hW : Only [] w W) :
    Calls Try.prog 21 #[.slice A n c, .int .i64 gap, .int .i64 least] W fun e w' => e = .returned (.tuple #[.slice none 0 0, .int .i64 E]) ∧ Only [] W w' := by
  have H := Lib.hid (h W hW)
  have e1 : (E != 0) = true := by simpa using hE
  clear hE h hW
  go_enter Try.func21, Try.ntmps21
  go_wp2_with (go_at_call 37; refine H.out.mono ?_; rintro e w1 ⟨rfl, ho⟩)
  go_ret2
  exact ⟨rfl, ho⟩
set_option maxRecDepth 20000 in
set_option maxHeartbeats 1000000 in
theorem Stack_err {w : World} {A : Option Addr} {n c : Nat} {gap least E : Int} (h : ErrG w (.slice A n c) gap least E) (hE : E ≠ 0) (W : World) (hW : Only [] w W) :
    Calls Try.prog 17 #[.slice A n c, .int .i64 gap, .int .i64 least] W fun e w' => e = .returned (.tuple #[sysV none 0 0 0 0, .int .i64 E]) ∧ Only [] W w' := by
  have X0 := Lib.hid ((Only.refl [] W).alloc (.cells #[.slice none 0 0, .int .i64 0, .int .i64 0] 24))
  have H := Lib.hid (h _ (hW.trans X0.out))
  have BS := Lib.hid (Blk.new W 24 [.slice none 0 0, .int .i64 0, .int .i64 0])
  have e1 : (E != 0) = true := by simpa using hE
  clear hE h hW
  obtain ⟨S, hS⟩ : ∃ S, W.heap.size = S := ⟨_, rfl⟩
  have HS := Lib.hid hS
  rw [hS] at BS
  clear hS
  go_enter Try.func17, Try.ntmps17
  go_wp2_with (go_at_call 37; refine H.out.mono ?_; rintro e w1 ⟨rfl, ho⟩; rw [HS.out]; have b1 := BS.out.only ho (by simp); have b10 := b1.cell 0; have b11 := b1.cell 1; have b12 := b1.cell 2; have f0 := b1.frozen 0; have f1 := b1.frozen 1; have f2 := b1.frozen 2; simp at b10 b11 b12)
  have b9 := ((b1.set_ 0 (.slice none 0 0)).set_ 1 (.int .i64 0)).set_ 2 (.int .i64 0)
  have c0 := b9.cell 0
  have c1 := b9.cell 1
  have c2 := b9.cell 2
  simp at c0 c1 c2
  have o9 := (((Only.refl [S] w1).setCell (p := ⟨S, 0, none⟩) (.inl (by simp)) (.slice none 0 0)).setCell (p := ⟨S, 1, none⟩) (.inl (by simp)) (.int .i64 0)).setCell (p := ⟨S, 2, none⟩) (.inl (by simp)) (.int .i64 0)
  have X6 := ((X0.out.trans ho).more (T := [S]) (by simp)).trans o9
  refine bodyPost_ret (v := .tuple #[sysV none 0 0 0 0, .int .i64 E]) (by simp [results, Try.results17, go_sem, c0, c1, c2]) rfl ⟨rfl, X6.less fun q hq hlq => ?_⟩
  have := HS.out
  simp at hq
  omega
set_option maxRecDepth 20000 in
set_option maxHeartbeats 1000000 in
theorem Spread_rng {w : World} {A A' : Option Addr} {ms ps : List Int} (c c' : Nat) (t b extra : Int) (hI : IntsAt w A ms) (hl : ms.length ≤ 8) (hP : IntsAt w A' ps) (hpl : ps.length ≤ 8) (he : partsE ms ps t b = 0) (hx : extra < 0 ∨ 16777216 < extra) :
    Calls Try.prog 29 #[sysV A ms.length c t b, .slice A' ps.length c', .int .i64 extra] w
      fun e w' => e = .returned (.tuple #[sysV none 0 0 0 0, .int .i64 2]) ∧ Only [] w w' := by
  have X := Lib.hid ((((Only.refl [] w).alloc (sysBox A ms.length c t b)).alloc (.cells #[.slice A' ps.length c'] 22)).alloc (.cells #[.slice none 0 0, .int .i64 0, .int .i64 0] 24))
  have BB := Lib.hid (three_boxes w A A' ms.length ps.length c c' t b)
  have HI := Lib.hid (hI.only X.out (by simp))
  have HP := Lib.hid (hP.only X.out (by simp))
  have HE := Lib.hid he
  clear hI hP he
  have h0 : decide (extra < 0) = true ∨ (decide (extra < 0) = false ∧ decide (16777216 < extra) = true) := by
    by_cases h1 : extra < 0
    · exact .inl (by simpa using h1)
    · exact .inr ⟨by simpa using h1, by simp; omega⟩
  clear hx
  rcases h0 with h1 | ⟨h1, h2⟩
  all_goals
    go_enter Try.func29, Try.ntmps29
    go_wp2_with (go_at_call 47; refine (vparts_any c c' t b HI.out hl HP.out hpl).mono ?_; rintro e w1 ⟨rfl, o1⟩; rw [HE.out]; have b1 := BB.out.2.2.only o1 (by simp); have b10 := b1.cell 0; have b11 := b1.cell 1; have b12 := b1.cell 2; have f10 := b1.frozen 0; have f11 := b1.frozen 1; have f12 := b1.frozen 2; simp at b10 b11 b12)
    have b2 := ((b1.set_ 0 (.slice none 0 0)).set_ 1 (.int .i64 0)).set_ 2 (.int .i64 0)
    have c0 := b2.cell 0
    have c1 := b2.cell 1
    have c2 := b2.cell 2
    simp at c0 c1 c2
    refine bodyPost_ret (v := .tuple #[sysV none 0 0 0 0, .int .i64 2]) (by simp [results, Try.results29, go_sem, c0, c1, c2]) rfl ⟨rfl, ?_⟩
    refine ((((X.out.trans o1).more (T := [w.heap.size + 1 + 1]) (by simp)).setCell (p := ⟨w.heap.size + 1 + 1, 0, none⟩) (.inl (by simp)) _).setCell (p := ⟨w.heap.size + 1 + 1, 1, none⟩) (.inl (by simp)) _).setCell (p := ⟨w.heap.size + 1 + 1, 2, none⟩) (.inl (by simp)) _ |>.less fun q hq hlq => ?_
    simp at hq
    omega
end Go.Proofs.Yticpophdoiljfaa
