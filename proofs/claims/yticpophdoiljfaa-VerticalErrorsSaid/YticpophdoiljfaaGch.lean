/- DERIVED. Vertical: Check and the statements' check of any staves, damaged ones too. -/
import Derived.Test.YticpophdoiljfaaCls
namespace Go.Proofs.Yticpophdoiljfaa
open Go.RowKit
attribute [local go_sem ↓] Go.wp_at_zero Go.wp_at_succ

/-- A pointer to a skyline of a side and a number of columns, or nil. -/
def SkyPt (w : World) (p : Option Addr) : Option (Int × Nat) → Prop
  | none => p = none
  | some (sd, n) => ∃ s g h, p = some ⟨s, 0, none⟩ ∧ Sky w s g sd h ∧ h.length = n
theorem SkyPt.newer {w w' : World} {p : Option Addr} {d : Option (Int × Nat)} {S : List Nat} (h : SkyPt w p d) (ho : Only S w w') (hS : ∀ q ∈ S, w.heap.size ≤ q) : SkyPt w' p d := by
  match d with
  | none => exact h
  | some (sd, n) =>
    obtain ⟨s, g, l, hp, hs, hn⟩ := h
    have l1 := hs.head.lt
    have l2 := hs.row.lt
    exact ⟨s, g, l, hp, hs.only ho (fun e => by have := hS _ e; omega) (fun e => by have := hS _ e; omega), hn⟩
/-- A staff: two pointers, what they point to, a part. -/
structure GS where
  a : Option Addr
  b : Option Addr
  da : Option (Int × Nat)
  db : Option (Int × Nat)
  part : Int
def GS.cells (r : GS) : List Value := [.pointer r.a, .pointer r.b, .int .i64 r.part]
/-- Staves in memory, of whatever kind. -/
structure GStv (w : World) (k : Nat) (l : List GS) : Prop where
  cell : ∀ i (hi : i < l.length) j u, (l[i]).cells[j]? = some u → w.cell? ⟨k, i * 3 + j, none⟩ = some u
  lt : k < w.heap.size
  sky : ∀ i (hi : i < l.length), SkyPt w l[i].a l[i].da ∧ SkyPt w l[i].b l[i].db
  pos : 0 < l.length
  few : l.length ≤ 6
  part : ∀ i (hi : i < l.length), -1 ≤ l[i].part ∧ l[i].part ≤ 100000
theorem GStv.newer {w w' : World} {k : Nat} {l : List GS} {S : List Nat} (h : GStv w k l) (ho : Only S w w') (hS : ∀ q ∈ S, w.heap.size ≤ q) : GStv w' k l :=
  ⟨fun i hi j u hu => (ho.cell (p := ⟨k, i * 3 + j, none⟩) h.lt (fun e => absurd h.lt (Nat.not_lt.2 (hS _ e)))).trans (h.cell i hi j u hu), Nat.lt_of_lt_of_le h.lt ho.size, fun i hi => ⟨(h.sky i hi).1.newer ho hS, (h.sky i hi).2.newer ho hS⟩, h.pos, h.few, h.part⟩
def colOf : Option (Int × Nat) → Nat
  | none => 0
  | some x => x.2
/-- The error of one staff. -/
def chkS (c0 : Nat) (prev : Option Int) (r : GS) : Int :=
  match r.da, r.db with
  | some x, some y => if x.1 ≠ 1 ∨ y.1 ≠ -1 then 11 else if x.2 ≠ c0 ∨ y.2 ≠ c0 ∨ r.part < 0 then 2 else match prev with
    | some p => if r.part < p then 25 else 0
    | none => 0
  | _, _ => 1
def prevOf (l : List GS) : Nat → Option Int
  | 0 => none
  | i + 1 => some (l.getD i ⟨none, none, none, none, 0⟩).part
def chkAt (l : List GS) (i : Nat) : Int := chkS (colOf (l.getD 0 ⟨none, none, none, none, 0⟩).da) (prevOf l i) (l.getD i ⟨none, none, none, none, 0⟩)
/-- The first error of the first k staves. -/
def chkTo (l : List GS) : Nat → Int
  | 0 => 0
  | k + 1 => if chkTo l k = 0 then chkAt l k else chkTo l k
def chk (l : List GS) : Int := chkTo l l.length
theorem chkTo_stays (l : List GS) (j : Nat) (h : chkTo l j ≠ 0) : ∀ d, chkTo l (j + d) = chkTo l j
  | 0 => rfl
  | d + 1 => by
    have ih := chkTo_stays l j h d
    rw [show j + (d + 1) = (j + d) + 1 by omega, chkTo, ih, if_neg h]
theorem chk_first {l : List GS} {j : Nat} {e : Int} (hj : j < l.length) (h0 : chkTo l j = 0) (he : chkAt l j = e) (hne : e ≠ 0) : chk l = e := by
  have h1 : chkTo l (j + 1) = e := by rw [chkTo, if_pos h0, he]
  have h2 := chkTo_stays l (j + 1) (by rw [h1]; exact hne) (l.length - (j + 1))
  rw [show j + 1 + (l.length - (j + 1)) = l.length by omega, h1] at h2
  exact h2
theorem gget {l : List GS} {i : Nat} (hi : i < l.length) : l.getD i ⟨none, none, none, none, 0⟩ = l[i] := by simp [List.getD, hi]

set_option maxRecDepth 20000 in
theorem ncols_nil (w : World) : Calls Try.prog 25 #[.pointer none] w fun e w' => e = .returned (.int .i64 0) ∧ w = w' := by
  go_enter Try.func25, Try.ntmps25
  go_wp2
  go_ret
  exact ⟨rfl, rfl⟩
theorem cols_pt {w : World} {p : Option Addr} {d : Option (Int × Nat)} (h : SkyPt w p d) : Calls Try.prog 25 #[.pointer p] w fun e w' => e = .returned (.int .i64 (colOf d)) ∧ w = w' := by
  match d with
  | none =>
    obtain rfl : p = none := h
    exact ncols_nil w
  | some (sd, n) =>
    obtain ⟨s, g, l, rfl, hs, hn⟩ := h
    exact ncols_is hs hn
theorem cols_some {w : World} {p : Option Addr} {sd : Int} {n : Nat} (h : SkyPt w p (some (sd, n))) : Calls Try.prog 25 #[.pointer p] w fun e w' => e = .returned (.int .i64 n) ∧ w = w' := cols_pt h
theorem side_pt {w : World} {p : Option Addr} {sd : Int} {n : Nat} (h : SkyPt w p (some (sd, n))) : Calls Try.prog 45 #[.pointer p] w fun e w' => e = .returned (.int .i64 sd) ∧ w = w' := by
  obtain ⟨s, g, l, rfl, hs, hn⟩ := h
  exact side_any hs
theorem SkyPt.ptr {w : World} {p : Option Addr} {x : Int × Nat} (h : SkyPt w p (some x)) : ∃ s, p = some ⟨s, 0, none⟩ := by
  obtain ⟨s, g, l, rfl, hs, hn⟩ := h
  exact ⟨s, rfl⟩

set_option maxRecDepth 20000 in
set_option maxHeartbeats 40000000 in
theorem GCheck_any {w : World} {k : Nat} {l : List GS} (cap : Nat) (h : GStv w k l) :
    Calls Try.prog 34 #[.slice (some ⟨k, 0, none⟩) l.length cap] w fun e w' => e = .returned (.int .i64 (chk l)) ∧ Only [] w w' := by
  have hp := h.pos
  have hf := h.few
  have H := Lib.hid h
  have l0 : ((l.length : Int) == 0) = false := by rw [beq_eq_false_iff_ne]; omega
  obtain ⟨r0, hr0⟩ : ∃ r, l[0] = r := ⟨_, rfl⟩
  have HR0 := Lib.hid hr0
  obtain ⟨c0, hc0⟩ : ∃ c, colOf r0.da = c := ⟨_, rfl⟩
  have CZE := Lib.hid hc0
  clear h hr0 hc0
  go_enter Try.func34, Try.ntmps34
  go_wp2
  go_loopw [13] (fun i wr => ∃ j : Nat, j ≤ l.length ∧ i = .int .i64 j ∧ chkTo l j = 0 ∧ Only [] w wr) (fun i _ => l.length - (intOf i).toNat)
  case atStart => exact ⟨0, by omega, rfl, rfl, Only.refl _ _⟩
  case round =>
    obtain ⟨j, hj, rfl, ht, hO⟩ := hrel
    have HT := Lib.hid ht
    clear ht
    by_cases hlt : j < l.length
    · have HS := Lib.hid (H.out.newer hO (by simp))
      have j0 : (0 : Int) ≤ (j : Int) := by omega
      have j1 : (j : Int) < (l.length : Int) := by omega
      have hpt := HS.out.part j hlt
      have k0 := HS.out.cell j hlt 0 _ rfl
      have k1 := HS.out.cell j hlt 1 _ rfl
      have k2 := HS.out.cell j hlt 2 _ rfl
      have CH := Lib.hid (show chkAt l j = chkS (colOf (l[0]).da) (prevOf l j) l[j] by rw [chkAt, gget hp, gget hlt])
      have SKY := Lib.hid (HS.out.sky j hlt)
      obtain ⟨p1, hp1⟩ : ∃ p, (l.getD (j - 1) ⟨none, none, none, none, 0⟩).part = p := ⟨_, rfl⟩
      have PJ := Lib.hid (fun (hz : 0 < j) => show prevOf l j = some p1 by
        obtain ⟨q, rfl⟩ : ∃ q, j = q + 1 := ⟨j - 1, by omega⟩
        rw [prevOf, ← hp1]; rfl)
      have PV := Lib.hid (fun (W : World) (h : Only [] wr W) => show W.cell? ⟨k, (j - 1) * 3 + 2, none⟩ = some (.int .i64 p1) by
        have := (HS.out.newer h (by simp)).cell (j - 1) (by omega) 2 _ rfl
        rw [← hp1, gget (show j - 1 < l.length by omega)]
        exact this)
      have Z0 := Lib.hid (fun (W : World) (h : Only [] wr W) => show W.cell? ⟨k, 0, none⟩ = some (.pointer r0.a) by
        have := (HS.out.newer h (by simp)).cell 0 hp 0 _ rfl
        rw [← HR0.out]
        simpa using this)
      have CZ := Lib.hid (fun (W : World) (h : Only [] wr W) => show SkyPt W r0.a r0.da by
        have := ((HS.out.newer h (by simp)).sky 0 hp).1
        rw [← HR0.out]
        exact this)
      rw [HR0.out, CZE.out] at CH
      obtain ⟨r, hr⟩ : ∃ r, l[j] = r := ⟨_, rfl⟩
      rw [hr] at hpt k0 k1 k2 CH SKY
      clear hr hp1
      obtain ⟨a, b, da, db, pt⟩ := r
      obtain ⟨SA, SB⟩ := SKY.out
      simp only [Nat.add_zero] at k0 k1 k2 hpt SA SB
      have XB : Hid (Only [] wr (wr.alloc (.cells #[.pointer a, .pointer b, .int .i64 pt] 50))) := Lib.hid ((Only.refl [] wr).alloc _)
      have XB2 : Hid (Only [] w (wr.alloc (.cells #[.pointer a, .pointer b, .int .i64 pt] 50))) := Lib.hid (hO.alloc _)
      have HB0 := Lib.hid (Blk.new wr 50 [.pointer a, .pointer b, .int .i64 pt])
      clear SKY HS hO
      match da, db with
      | none, _ =>
        obtain rfl : a = none := SA
        go_wp2
        go_ret
        exact ⟨ret_int (chk_first hlt HT.out (by rw [CH.out]; simp [chkS]) (by decide)).symm, by first | exact XB2.out | exact XB2.out.drewN _ | exact (XB2.out.drewN _).drewN _⟩
      | some x, none =>
        obtain rfl : b = none := SB
        obtain ⟨s, rfl⟩ := SA.ptr
        go_wp2
        go_ret
        exact ⟨ret_int (chk_first hlt HT.out (by rw [CH.out]; simp [chkS]) (by decide)).symm, by first | exact XB2.out | exact XB2.out.drewN _ | exact (XB2.out.drewN _).drewN _⟩
      | some (sa, na), some (sb, nb) =>
        obtain ⟨s, rfl⟩ := SA.ptr
        obtain ⟨s2, rfl⟩ := SB.ptr
        have SA1 := Lib.hid (fun (W : World) (h : Only [] wr W) => side_pt (SA.newer h (by simp)))
        have SB1 := Lib.hid (fun (W : World) (h : Only [] wr W) => side_pt (SB.newer h (by simp)))
        have CA := Lib.hid (fun (W : World) (h : Only [] wr W) => SA.newer h (by simp))
        have CB := Lib.hid (fun (W : World) (h : Only [] wr W) => SB.newer h (by simp))
        clear SA SB
        by_cases n1 : sa = 1
        · subst n1
          by_cases n2 : sb = -1
          · subst n2
            by_cases n4 : na = c0
            · subst n4
              have nn : ((na : Int) != (na : Int)) = false := by simp
              by_cases n5 : nb = na
              · subst n5
                by_cases n3 : pt < 0
                · have n3' : decide (pt < 0) = true := by simpa using n3
                  go_wp2_with (first
                    | (go_at_call 45; with_reducible refine (SB1.out _ XB.out).mono ?_; rintro e w' ⟨rfl, rfl⟩)
                    | (go_at_call 45; with_reducible refine (SA1.out _ XB.out).mono ?_; rintro e w' ⟨rfl, rfl⟩))
                  have y0 := HB0.out.cell 0
                  have y1 := HB0.out.cell 1
                  have y2 := HB0.out.cell 2
                  simp only [List.getElem?_cons_zero, List.getElem?_cons_succ] at y0 y1 y2
                  have d0 := Z0.out _ XB.out
                  have c3 := PV.out _ XB.out
                  have C1 := Lib.hid (fun i => cols_some (w := (wr.alloc (.cells #[.pointer (some ⟨s, 0, none⟩), .pointer (some ⟨s2, 0, none⟩), .int .i64 pt] 50)).drewN i) (CA.out _ (XB.out.drewN i)))
                  have C2 := Lib.hid (fun i => cols_some (w := (wr.alloc (.cells #[.pointer (some ⟨s, 0, none⟩), .pointer (some ⟨s2, 0, none⟩), .int .i64 pt] 50)).drewN i) (CB.out _ (XB.out.drewN i)))
                  have C3 := Lib.hid (fun i => cols_pt (w := (wr.alloc (.cells #[.pointer (some ⟨s, 0, none⟩), .pointer (some ⟨s2, 0, none⟩), .int .i64 pt] 50)).drewN i) (CZ.out _ (XB.out.drewN i)))
                  rw [CZE.out] at C3
                  generalize (wr.alloc (.cells #[.pointer (some ⟨s, 0, none⟩), .pointer (some ⟨s2, 0, none⟩), .int .i64 pt] 50)) = W2 at *
                  generalize wr.heap.size = Bx at *
                  go_quiet ((first
                    | (go_at_call 25; with_reducible exact quiet_left (C3.out _))
                    | (go_at_call 25; with_reducible exact quiet_left (C1.out _))
                    | (go_at_call 25; with_reducible exact quiet_left (C2.out _))))
                  go_wp2
                  go_ret
                  exact ⟨ret_int (chk_first hlt HT.out (by rw [CH.out]; simp [chkS, n3]) (by decide)).symm, by first | exact XB2.out | exact XB2.out.drewN _ | exact (XB2.out.drewN _).drewN _⟩
                · have n3' : decide (pt < 0) = false := by simpa using n3
                  have N3 := Lib.hid n3
                  clear n3
                  by_cases hj0 : 0 < j
                  · have n0 : (0 : Int) < (j : Int) := by omega
                    have j2 : (0 : Int) ≤ (j : Int) - 1 := by omega
                    have j3 : (j : Int) - 1 < (l.length : Int) := by omega
                    have j5 : IntKind.i64.wrap ((j : Int) - 1) = (j : Int) - 1 := IntWalk.i64_in _ (by omega)
                    have j4 : ((j : Int) - 1).toNat = j - 1 := by omega
                    have PVE := Lib.hid (show prevOf l j = some p1 from PJ.out hj0)
                    by_cases n6 : pt < p1
                    · have n6' : decide (pt < p1) = true := by simpa using n6
                      go_wp2_with (first
                        | (go_at_call 45; with_reducible refine (SB1.out _ XB.out).mono ?_; rintro e w' ⟨rfl, rfl⟩)
                        | (go_at_call 45; with_reducible refine (SA1.out _ XB.out).mono ?_; rintro e w' ⟨rfl, rfl⟩))
                      have y0 := HB0.out.cell 0
                      have y1 := HB0.out.cell 1
                      have y2 := HB0.out.cell 2
                      simp only [List.getElem?_cons_zero, List.getElem?_cons_succ] at y0 y1 y2
                      have d0 := Z0.out _ XB.out
                      have c3 := PV.out _ XB.out
                      have C1 := Lib.hid (fun i => cols_some (w := (wr.alloc (.cells #[.pointer (some ⟨s, 0, none⟩), .pointer (some ⟨s2, 0, none⟩), .int .i64 pt] 50)).drewN i) (CA.out _ (XB.out.drewN i)))
                      have C2 := Lib.hid (fun i => cols_some (w := (wr.alloc (.cells #[.pointer (some ⟨s, 0, none⟩), .pointer (some ⟨s2, 0, none⟩), .int .i64 pt] 50)).drewN i) (CB.out _ (XB.out.drewN i)))
                      have C3 := Lib.hid (fun i => cols_pt (w := (wr.alloc (.cells #[.pointer (some ⟨s, 0, none⟩), .pointer (some ⟨s2, 0, none⟩), .int .i64 pt] 50)).drewN i) (CZ.out _ (XB.out.drewN i)))
                      rw [CZE.out] at C3
                      generalize (wr.alloc (.cells #[.pointer (some ⟨s, 0, none⟩), .pointer (some ⟨s2, 0, none⟩), .int .i64 pt] 50)) = W2 at *
                      generalize wr.heap.size = Bx at *
                      go_quiet ((first
                        | (go_at_call 25; with_reducible exact quiet_left (C3.out _))
                        | (go_at_call 25; with_reducible exact quiet_left (C1.out _))
                        | (go_at_call 25; with_reducible exact quiet_left (C2.out _))))
                      go_wp2
                      go_quiet (fail)
                      go_wp2
                      go_ret
                      exact ⟨ret_int (chk_first hlt HT.out (by rw [CH.out, PVE.out]; have := N3.out; simp [chkS, n6]; omega) (by decide)).symm, by first | exact XB2.out | exact XB2.out.drewN _ | exact (XB2.out.drewN _).drewN _⟩
                    · have n6' : decide (pt < p1) = false := by simpa using n6
                      go_wp2_with (first
                        | (go_at_call 45; with_reducible refine (SB1.out _ XB.out).mono ?_; rintro e w' ⟨rfl, rfl⟩)
                        | (go_at_call 45; with_reducible refine (SA1.out _ XB.out).mono ?_; rintro e w' ⟨rfl, rfl⟩))
                      have y0 := HB0.out.cell 0
                      have y1 := HB0.out.cell 1
                      have y2 := HB0.out.cell 2
                      simp only [List.getElem?_cons_zero, List.getElem?_cons_succ] at y0 y1 y2
                      have d0 := Z0.out _ XB.out
                      have c3 := PV.out _ XB.out
                      have C1 := Lib.hid (fun i => cols_some (w := (wr.alloc (.cells #[.pointer (some ⟨s, 0, none⟩), .pointer (some ⟨s2, 0, none⟩), .int .i64 pt] 50)).drewN i) (CA.out _ (XB.out.drewN i)))
                      have C2 := Lib.hid (fun i => cols_some (w := (wr.alloc (.cells #[.pointer (some ⟨s, 0, none⟩), .pointer (some ⟨s2, 0, none⟩), .int .i64 pt] 50)).drewN i) (CB.out _ (XB.out.drewN i)))
                      have C3 := Lib.hid (fun i => cols_pt (w := (wr.alloc (.cells #[.pointer (some ⟨s, 0, none⟩), .pointer (some ⟨s2, 0, none⟩), .int .i64 pt] 50)).drewN i) (CZ.out _ (XB.out.drewN i)))
                      rw [CZE.out] at C3
                      generalize (wr.alloc (.cells #[.pointer (some ⟨s, 0, none⟩), .pointer (some ⟨s2, 0, none⟩), .int .i64 pt] 50)) = W2 at *
                      generalize wr.heap.size = Bx at *
                      go_quiet ((first
                        | (go_at_call 25; with_reducible exact quiet_left (C3.out _))
                        | (go_at_call 25; with_reducible exact quiet_left (C1.out _))
                        | (go_at_call 25; with_reducible exact quiet_left (C2.out _))))
                      go_wp2
                      go_quiet (fail)
                      go_wp2
                      go_roundw
                      case rel => exact ⟨j + 1, by omega, by go_num, by rw [chkTo, if_pos HT.out, CH.out, PVE.out]; have := N3.out; simp [chkS, n6]; omega, by first | exact XB2.out | exact XB2.out.drewN _ | exact (XB2.out.drewN _).drewN _⟩
                      case measure => simp [intOf]; omega
                  · have n0 : decide ((0 : Int) < (j : Int)) = false := by simp; omega
                    have n0' : decide (0 < j) = false := by simp; omega
                    have PVE := Lib.hid (show prevOf l j = none by obtain rfl : j = 0 := (by omega); rfl)
                    go_wp2_with (first
                      | (go_at_call 45; with_reducible refine (SB1.out _ XB.out).mono ?_; rintro e w' ⟨rfl, rfl⟩)
                      | (go_at_call 45; with_reducible refine (SA1.out _ XB.out).mono ?_; rintro e w' ⟨rfl, rfl⟩))
                    have y0 := HB0.out.cell 0
                    have y1 := HB0.out.cell 1
                    have y2 := HB0.out.cell 2
                    simp only [List.getElem?_cons_zero, List.getElem?_cons_succ] at y0 y1 y2
                    have d0 := Z0.out _ XB.out
                    have c3 := PV.out _ XB.out
                    have C1 := Lib.hid (fun i => cols_some (w := (wr.alloc (.cells #[.pointer (some ⟨s, 0, none⟩), .pointer (some ⟨s2, 0, none⟩), .int .i64 pt] 50)).drewN i) (CA.out _ (XB.out.drewN i)))
                    have C2 := Lib.hid (fun i => cols_some (w := (wr.alloc (.cells #[.pointer (some ⟨s, 0, none⟩), .pointer (some ⟨s2, 0, none⟩), .int .i64 pt] 50)).drewN i) (CB.out _ (XB.out.drewN i)))
                    have C3 := Lib.hid (fun i => cols_pt (w := (wr.alloc (.cells #[.pointer (some ⟨s, 0, none⟩), .pointer (some ⟨s2, 0, none⟩), .int .i64 pt] 50)).drewN i) (CZ.out _ (XB.out.drewN i)))
                    rw [CZE.out] at C3
                    generalize (wr.alloc (.cells #[.pointer (some ⟨s, 0, none⟩), .pointer (some ⟨s2, 0, none⟩), .int .i64 pt] 50)) = W2 at *
                    generalize wr.heap.size = Bx at *
                    go_quiet ((first
                      | (go_at_call 25; with_reducible exact quiet_left (C3.out _))
                      | (go_at_call 25; with_reducible exact quiet_left (C1.out _))
                      | (go_at_call 25; with_reducible exact quiet_left (C2.out _))))
                    go_wp2
                    go_quiet (fail)
                    go_wp2
                    go_roundw
                    case rel => exact ⟨j + 1, by omega, by go_num, by rw [chkTo, if_pos HT.out, CH.out, PVE.out]; have := N3.out; simp [chkS]; omega, by first | exact XB2.out | exact XB2.out.drewN _ | exact (XB2.out.drewN _).drewN _⟩
                    case measure => simp [intOf]; omega
              · have n5' : ((nb : Int) != (na : Int)) = true := by simp; omega
                have N5 := Lib.hid n5
                clear n5
                go_wp2_with (first
                  | (go_at_call 45; with_reducible refine (SB1.out _ XB.out).mono ?_; rintro e w' ⟨rfl, rfl⟩)
                  | (go_at_call 45; with_reducible refine (SA1.out _ XB.out).mono ?_; rintro e w' ⟨rfl, rfl⟩))
                have y0 := HB0.out.cell 0
                have y1 := HB0.out.cell 1
                have y2 := HB0.out.cell 2
                simp only [List.getElem?_cons_zero, List.getElem?_cons_succ] at y0 y1 y2
                have d0 := Z0.out _ XB.out
                have c3 := PV.out _ XB.out
                have C1 := Lib.hid (fun i => cols_some (w := (wr.alloc (.cells #[.pointer (some ⟨s, 0, none⟩), .pointer (some ⟨s2, 0, none⟩), .int .i64 pt] 50)).drewN i) (CA.out _ (XB.out.drewN i)))
                have C2 := Lib.hid (fun i => cols_some (w := (wr.alloc (.cells #[.pointer (some ⟨s, 0, none⟩), .pointer (some ⟨s2, 0, none⟩), .int .i64 pt] 50)).drewN i) (CB.out _ (XB.out.drewN i)))
                have C3 := Lib.hid (fun i => cols_pt (w := (wr.alloc (.cells #[.pointer (some ⟨s, 0, none⟩), .pointer (some ⟨s2, 0, none⟩), .int .i64 pt] 50)).drewN i) (CZ.out _ (XB.out.drewN i)))
                rw [CZE.out] at C3
                generalize (wr.alloc (.cells #[.pointer (some ⟨s, 0, none⟩), .pointer (some ⟨s2, 0, none⟩), .int .i64 pt] 50)) = W2 at *
                generalize wr.heap.size = Bx at *
                go_quiet ((first
                  | (go_at_call 25; with_reducible exact quiet_left (C3.out _))
                  | (go_at_call 25; with_reducible exact quiet_left (C1.out _))
                  | (go_at_call 25; with_reducible exact quiet_left (C2.out _))))
                go_wp2
                go_ret
                exact ⟨ret_int (chk_first hlt HT.out (by rw [CH.out]; simp [chkS, N5.out]) (by decide)).symm, by first | exact XB2.out | exact XB2.out.drewN _ | exact (XB2.out.drewN _).drewN _⟩
            · have n4' : ((na : Int) != (c0 : Int)) = true := by simp; omega
              have N4 := Lib.hid n4
              clear n4
              go_wp2_with (first
                | (go_at_call 45; with_reducible refine (SB1.out _ XB.out).mono ?_; rintro e w' ⟨rfl, rfl⟩)
                | (go_at_call 45; with_reducible refine (SA1.out _ XB.out).mono ?_; rintro e w' ⟨rfl, rfl⟩))
              have y0 := HB0.out.cell 0
              have y1 := HB0.out.cell 1
              have y2 := HB0.out.cell 2
              simp only [List.getElem?_cons_zero, List.getElem?_cons_succ] at y0 y1 y2
              have d0 := Z0.out _ XB.out
              have c3 := PV.out _ XB.out
              have C1 := Lib.hid (fun i => cols_some (w := (wr.alloc (.cells #[.pointer (some ⟨s, 0, none⟩), .pointer (some ⟨s2, 0, none⟩), .int .i64 pt] 50)).drewN i) (CA.out _ (XB.out.drewN i)))
              have C2 := Lib.hid (fun i => cols_some (w := (wr.alloc (.cells #[.pointer (some ⟨s, 0, none⟩), .pointer (some ⟨s2, 0, none⟩), .int .i64 pt] 50)).drewN i) (CB.out _ (XB.out.drewN i)))
              have C3 := Lib.hid (fun i => cols_pt (w := (wr.alloc (.cells #[.pointer (some ⟨s, 0, none⟩), .pointer (some ⟨s2, 0, none⟩), .int .i64 pt] 50)).drewN i) (CZ.out _ (XB.out.drewN i)))
              rw [CZE.out] at C3
              generalize (wr.alloc (.cells #[.pointer (some ⟨s, 0, none⟩), .pointer (some ⟨s2, 0, none⟩), .int .i64 pt] 50)) = W2 at *
              generalize wr.heap.size = Bx at *
              go_quiet ((first
                | (go_at_call 25; with_reducible exact quiet_left (C3.out _))
                | (go_at_call 25; with_reducible exact quiet_left (C1.out _))
                | (go_at_call 25; with_reducible exact quiet_left (C2.out _))))
              go_wp2
              go_ret
              exact ⟨ret_int (chk_first hlt HT.out (by rw [CH.out]; simp [chkS, N4.out]) (by decide)).symm, by first | exact XB2.out | exact XB2.out.drewN _ | exact (XB2.out.drewN _).drewN _⟩
          · have n2' : (sb != -1) = true := by simpa using n2
            have N2 := Lib.hid n2
            clear n2
            go_wp2_with (first
              | (go_at_call 45; with_reducible refine (SB1.out _ XB.out).mono ?_; rintro e w' ⟨rfl, rfl⟩)
              | (go_at_call 45; with_reducible refine (SA1.out _ XB.out).mono ?_; rintro e w' ⟨rfl, rfl⟩))
            go_ret
            exact ⟨ret_int (chk_first hlt HT.out (by rw [CH.out]; simp [chkS, N2.out]) (by decide)).symm, by first | exact XB2.out | exact XB2.out.drewN _ | exact (XB2.out.drewN _).drewN _⟩
        · have n1' : (sa != 1) = true := by simpa using n1
          have N1 := Lib.hid n1
          clear n1
          go_wp2_with (first
            | (go_at_call 45; with_reducible refine (SB1.out _ XB.out).mono ?_; rintro e w' ⟨rfl, rfl⟩)
            | (go_at_call 45; with_reducible refine (SA1.out _ XB.out).mono ?_; rintro e w' ⟨rfl, rfl⟩))
          go_ret
          exact ⟨ret_int (chk_first hlt HT.out (by rw [CH.out]; simp [chkS, N1.out]) (by decide)).symm, by first | exact XB2.out | exact XB2.out.drewN _ | exact (XB2.out.drewN _).drewN _⟩
    · obtain rfl : j = l.length := by omega
      go_wp2
      go_ret
      exact ⟨ret_int HT.out.symm, hO⟩

set_option maxRecDepth 20000 in
set_option maxHeartbeats 40000000 in
theorem gcheck_any {w : World} {k : Nat} {l : List GS} (cap : Nat) (h : GStv w k l) :
    Calls Try.prog 19 #[.slice (some ⟨k, 0, none⟩) l.length cap] w fun e w' => e = .returned (.int .i64 (chk l)) ∧ Only [] w w' := by
  have hp := h.pos
  have hf := h.few
  have H := Lib.hid h
  have l0 : ((l.length : Int) == 0) = false := by rw [beq_eq_false_iff_ne]; omega
  obtain ⟨r0, hr0⟩ : ∃ r, l[0] = r := ⟨_, rfl⟩
  have HR0 := Lib.hid hr0
  obtain ⟨c0, hc0⟩ : ∃ c, colOf r0.da = c := ⟨_, rfl⟩
  have CZE := Lib.hid hc0
  clear h hr0 hc0
  go_enter Try.func19, Try.ntmps19
  have C0 := Lib.hid (cols_pt (H.out.sky 0 hp).1)
  rw [HR0.out, CZE.out] at C0
  have D0 : w.cell? ⟨k, 0, none⟩ = some (.pointer r0.a) := by
    have := H.out.cell 0 hp 0 _ rfl
    rw [← HR0.out]
    simpa using this
  go_wp2_with (go_at_call 25; refine C0.out.mono ?_; rintro e w' ⟨rfl, rfl⟩)
  clear D0
  go_loopw [4] (fun i wr => ∃ j : Nat, j ≤ l.length ∧ i = .int .i64 j ∧ chkTo l j = 0 ∧ Only [] w wr) (fun i _ => l.length - (intOf i).toNat)
  case atStart => exact ⟨0, by omega, rfl, rfl, Only.refl _ _⟩
  case round =>
    obtain ⟨j, hj, rfl, ht, hO⟩ := hrel
    have HT := Lib.hid ht
    clear ht
    by_cases hlt : j < l.length
    · have HS := Lib.hid (H.out.newer hO (by simp))
      have j0 : (0 : Int) ≤ (j : Int) := by omega
      have j1 : (j : Int) < (l.length : Int) := by omega
      have hpt := HS.out.part j hlt
      have k0 := HS.out.cell j hlt 0 _ rfl
      have k1 := HS.out.cell j hlt 1 _ rfl
      have k2 := HS.out.cell j hlt 2 _ rfl
      have CH := Lib.hid (show chkAt l j = chkS (colOf (l[0]).da) (prevOf l j) l[j] by rw [chkAt, gget hp, gget hlt])
      have SKY := Lib.hid (HS.out.sky j hlt)
      obtain ⟨p1, hp1⟩ : ∃ p, (l.getD (j - 1) ⟨none, none, none, none, 0⟩).part = p := ⟨_, rfl⟩
      have PJ := Lib.hid (fun (hz : 0 < j) => show prevOf l j = some p1 by
        obtain ⟨q, rfl⟩ : ∃ q, j = q + 1 := ⟨j - 1, by omega⟩
        rw [prevOf, ← hp1]; rfl)
      have PV := Lib.hid (fun (W : World) (h : Only [] wr W) => show W.cell? ⟨k, (j - 1) * 3 + 2, none⟩ = some (.int .i64 p1) by
        have := (HS.out.newer h (by simp)).cell (j - 1) (by omega) 2 _ rfl
        rw [← hp1, gget (show j - 1 < l.length by omega)]
        exact this)
      have Z0 := Lib.hid (fun (W : World) (h : Only [] wr W) => show W.cell? ⟨k, 0, none⟩ = some (.pointer r0.a) by
        have := (HS.out.newer h (by simp)).cell 0 hp 0 _ rfl
        rw [← HR0.out]
        simpa using this)
      have CZ := Lib.hid (fun (W : World) (h : Only [] wr W) => show SkyPt W r0.a r0.da by
        have := ((HS.out.newer h (by simp)).sky 0 hp).1
        rw [← HR0.out]
        exact this)
      rw [HR0.out, CZE.out] at CH
      obtain ⟨r, hr⟩ : ∃ r, l[j] = r := ⟨_, rfl⟩
      rw [hr] at hpt k0 k1 k2 CH SKY
      clear hr hp1
      obtain ⟨a, b, da, db, pt⟩ := r
      obtain ⟨SA, SB⟩ := SKY.out
      simp only [Nat.add_zero] at k0 k1 k2 hpt SA SB
      have XB : Hid (Only [] wr (wr.alloc (.cells #[.pointer a, .pointer b, .int .i64 pt] 50))) := Lib.hid ((Only.refl [] wr).alloc _)
      have XB2 : Hid (Only [] w (wr.alloc (.cells #[.pointer a, .pointer b, .int .i64 pt] 50))) := Lib.hid (hO.alloc _)
      have HB0 := Lib.hid (Blk.new wr 50 [.pointer a, .pointer b, .int .i64 pt])
      clear SKY HS hO
      match da, db with
      | none, _ =>
        obtain rfl : a = none := SA
        go_wp2
        go_ret
        exact ⟨ret_int (chk_first hlt HT.out (by rw [CH.out]; simp [chkS]) (by decide)).symm, by first | exact XB2.out | exact XB2.out.drewN _ | exact (XB2.out.drewN _).drewN _⟩
      | some x, none =>
        obtain rfl : b = none := SB
        obtain ⟨s, rfl⟩ := SA.ptr
        go_wp2
        go_ret
        exact ⟨ret_int (chk_first hlt HT.out (by rw [CH.out]; simp [chkS]) (by decide)).symm, by first | exact XB2.out | exact XB2.out.drewN _ | exact (XB2.out.drewN _).drewN _⟩
      | some (sa, na), some (sb, nb) =>
        obtain ⟨s, rfl⟩ := SA.ptr
        obtain ⟨s2, rfl⟩ := SB.ptr
        have SA1 := Lib.hid (fun (W : World) (h : Only [] wr W) => side_pt (SA.newer h (by simp)))
        have SB1 := Lib.hid (fun (W : World) (h : Only [] wr W) => side_pt (SB.newer h (by simp)))
        have CA := Lib.hid (fun (W : World) (h : Only [] wr W) => SA.newer h (by simp))
        have CB := Lib.hid (fun (W : World) (h : Only [] wr W) => SB.newer h (by simp))
        clear SA SB
        by_cases n1 : sa = 1
        · subst n1
          by_cases n2 : sb = -1
          · subst n2
            by_cases n4 : na = c0
            · subst n4
              have nn : ((na : Int) != (na : Int)) = false := by simp
              by_cases n5 : nb = na
              · subst n5
                by_cases n3 : pt < 0
                · have n3' : decide (pt < 0) = true := by simpa using n3
                  go_wp2_with (first
                    | (go_at_call 45; with_reducible refine (SB1.out _ XB.out).mono ?_; rintro e w' ⟨rfl, rfl⟩)
                    | (go_at_call 45; with_reducible refine (SA1.out _ XB.out).mono ?_; rintro e w' ⟨rfl, rfl⟩))
                  have y0 := HB0.out.cell 0
                  have y1 := HB0.out.cell 1
                  have y2 := HB0.out.cell 2
                  simp only [List.getElem?_cons_zero, List.getElem?_cons_succ] at y0 y1 y2
                  have d0 := Z0.out _ XB.out
                  have c3 := PV.out _ XB.out
                  have C1 := Lib.hid (cols_some (w := (wr.alloc (.cells #[.pointer (some ⟨s, 0, none⟩), .pointer (some ⟨s2, 0, none⟩), .int .i64 pt] 50))) (CA.out _ XB.out))
                  have C2 := Lib.hid (cols_some (w := (wr.alloc (.cells #[.pointer (some ⟨s, 0, none⟩), .pointer (some ⟨s2, 0, none⟩), .int .i64 pt] 50))) (CB.out _ XB.out))
                  generalize (wr.alloc (.cells #[.pointer (some ⟨s, 0, none⟩), .pointer (some ⟨s2, 0, none⟩), .int .i64 pt] 50)) = W2 at *
                  generalize wr.heap.size = Bx at *
                  go_wp2_with (first
                    | (go_at_call 25; with_reducible refine C2.out.mono ?_; rintro e w' ⟨rfl, rfl⟩)
                    | (go_at_call 25; with_reducible refine C1.out.mono ?_; rintro e w' ⟨rfl, rfl⟩))
                  go_ret
                  exact ⟨ret_int (chk_first hlt HT.out (by rw [CH.out]; simp [chkS, n3]) (by decide)).symm, by first | exact XB2.out | exact XB2.out.drewN _ | exact (XB2.out.drewN _).drewN _⟩
                · have n3' : decide (pt < 0) = false := by simpa using n3
                  have N3 := Lib.hid n3
                  clear n3
                  by_cases hj0 : 0 < j
                  · have n0 : (0 : Int) < (j : Int) := by omega
                    have j2 : (0 : Int) ≤ (j : Int) - 1 := by omega
                    have j3 : (j : Int) - 1 < (l.length : Int) := by omega
                    have j5 : IntKind.i64.wrap ((j : Int) - 1) = (j : Int) - 1 := IntWalk.i64_in _ (by omega)
                    have j4 : ((j : Int) - 1).toNat = j - 1 := by omega
                    have PVE := Lib.hid (show prevOf l j = some p1 from PJ.out hj0)
                    by_cases n6 : pt < p1
                    · have n6' : decide (pt < p1) = true := by simpa using n6
                      go_wp2_with (first
                        | (go_at_call 45; with_reducible refine (SB1.out _ XB.out).mono ?_; rintro e w' ⟨rfl, rfl⟩)
                        | (go_at_call 45; with_reducible refine (SA1.out _ XB.out).mono ?_; rintro e w' ⟨rfl, rfl⟩))
                      have y0 := HB0.out.cell 0
                      have y1 := HB0.out.cell 1
                      have y2 := HB0.out.cell 2
                      simp only [List.getElem?_cons_zero, List.getElem?_cons_succ] at y0 y1 y2
                      have d0 := Z0.out _ XB.out
                      have c3 := PV.out _ XB.out
                      have C1 := Lib.hid (cols_some (w := (wr.alloc (.cells #[.pointer (some ⟨s, 0, none⟩), .pointer (some ⟨s2, 0, none⟩), .int .i64 pt] 50))) (CA.out _ XB.out))
                      have C2 := Lib.hid (cols_some (w := (wr.alloc (.cells #[.pointer (some ⟨s, 0, none⟩), .pointer (some ⟨s2, 0, none⟩), .int .i64 pt] 50))) (CB.out _ XB.out))
                      generalize (wr.alloc (.cells #[.pointer (some ⟨s, 0, none⟩), .pointer (some ⟨s2, 0, none⟩), .int .i64 pt] 50)) = W2 at *
                      generalize wr.heap.size = Bx at *
                      go_wp2_with (first
                        | (go_at_call 25; with_reducible refine C2.out.mono ?_; rintro e w' ⟨rfl, rfl⟩)
                        | (go_at_call 25; with_reducible refine C1.out.mono ?_; rintro e w' ⟨rfl, rfl⟩))
                      go_quiet (fail)
                      go_wp2
                      go_ret
                      exact ⟨ret_int (chk_first hlt HT.out (by rw [CH.out, PVE.out]; have := N3.out; simp [chkS, n6]; omega) (by decide)).symm, by first | exact XB2.out | exact XB2.out.drewN _ | exact (XB2.out.drewN _).drewN _⟩
                    · have n6' : decide (pt < p1) = false := by simpa using n6
                      go_wp2_with (first
                        | (go_at_call 45; with_reducible refine (SB1.out _ XB.out).mono ?_; rintro e w' ⟨rfl, rfl⟩)
                        | (go_at_call 45; with_reducible refine (SA1.out _ XB.out).mono ?_; rintro e w' ⟨rfl, rfl⟩))
                      have y0 := HB0.out.cell 0
                      have y1 := HB0.out.cell 1
                      have y2 := HB0.out.cell 2
                      simp only [List.getElem?_cons_zero, List.getElem?_cons_succ] at y0 y1 y2
                      have d0 := Z0.out _ XB.out
                      have c3 := PV.out _ XB.out
                      have C1 := Lib.hid (cols_some (w := (wr.alloc (.cells #[.pointer (some ⟨s, 0, none⟩), .pointer (some ⟨s2, 0, none⟩), .int .i64 pt] 50))) (CA.out _ XB.out))
                      have C2 := Lib.hid (cols_some (w := (wr.alloc (.cells #[.pointer (some ⟨s, 0, none⟩), .pointer (some ⟨s2, 0, none⟩), .int .i64 pt] 50))) (CB.out _ XB.out))
                      generalize (wr.alloc (.cells #[.pointer (some ⟨s, 0, none⟩), .pointer (some ⟨s2, 0, none⟩), .int .i64 pt] 50)) = W2 at *
                      generalize wr.heap.size = Bx at *
                      go_wp2_with (first
                        | (go_at_call 25; with_reducible refine C2.out.mono ?_; rintro e w' ⟨rfl, rfl⟩)
                        | (go_at_call 25; with_reducible refine C1.out.mono ?_; rintro e w' ⟨rfl, rfl⟩))
                      go_quiet (fail)
                      go_wp2
                      go_roundw
                      case rel => exact ⟨j + 1, by omega, by go_num, by rw [chkTo, if_pos HT.out, CH.out, PVE.out]; have := N3.out; simp [chkS, n6]; omega, by first | exact XB2.out | exact XB2.out.drewN _ | exact (XB2.out.drewN _).drewN _⟩
                      case measure => simp [intOf]; omega
                  · have n0 : decide ((0 : Int) < (j : Int)) = false := by simp; omega
                    have n0' : decide (0 < j) = false := by simp; omega
                    have PVE := Lib.hid (show prevOf l j = none by obtain rfl : j = 0 := (by omega); rfl)
                    go_wp2_with (first
                      | (go_at_call 45; with_reducible refine (SB1.out _ XB.out).mono ?_; rintro e w' ⟨rfl, rfl⟩)
                      | (go_at_call 45; with_reducible refine (SA1.out _ XB.out).mono ?_; rintro e w' ⟨rfl, rfl⟩))
                    have y0 := HB0.out.cell 0
                    have y1 := HB0.out.cell 1
                    have y2 := HB0.out.cell 2
                    simp only [List.getElem?_cons_zero, List.getElem?_cons_succ] at y0 y1 y2
                    have d0 := Z0.out _ XB.out
                    have c3 := PV.out _ XB.out
                    have C1 := Lib.hid (cols_some (w := (wr.alloc (.cells #[.pointer (some ⟨s, 0, none⟩), .pointer (some ⟨s2, 0, none⟩), .int .i64 pt] 50))) (CA.out _ XB.out))
                    have C2 := Lib.hid (cols_some (w := (wr.alloc (.cells #[.pointer (some ⟨s, 0, none⟩), .pointer (some ⟨s2, 0, none⟩), .int .i64 pt] 50))) (CB.out _ XB.out))
                    generalize (wr.alloc (.cells #[.pointer (some ⟨s, 0, none⟩), .pointer (some ⟨s2, 0, none⟩), .int .i64 pt] 50)) = W2 at *
                    generalize wr.heap.size = Bx at *
                    go_wp2_with (first
                      | (go_at_call 25; with_reducible refine C2.out.mono ?_; rintro e w' ⟨rfl, rfl⟩)
                      | (go_at_call 25; with_reducible refine C1.out.mono ?_; rintro e w' ⟨rfl, rfl⟩))
                    go_quiet (fail)
                    go_wp2
                    go_roundw
                    case rel => exact ⟨j + 1, by omega, by go_num, by rw [chkTo, if_pos HT.out, CH.out, PVE.out]; have := N3.out; simp [chkS]; omega, by first | exact XB2.out | exact XB2.out.drewN _ | exact (XB2.out.drewN _).drewN _⟩
                    case measure => simp [intOf]; omega
              · have n5' : ((nb : Int) != (na : Int)) = true := by simp; omega
                have N5 := Lib.hid n5
                clear n5
                go_wp2_with (first
                  | (go_at_call 45; with_reducible refine (SB1.out _ XB.out).mono ?_; rintro e w' ⟨rfl, rfl⟩)
                  | (go_at_call 45; with_reducible refine (SA1.out _ XB.out).mono ?_; rintro e w' ⟨rfl, rfl⟩))
                have y0 := HB0.out.cell 0
                have y1 := HB0.out.cell 1
                have y2 := HB0.out.cell 2
                simp only [List.getElem?_cons_zero, List.getElem?_cons_succ] at y0 y1 y2
                have d0 := Z0.out _ XB.out
                have c3 := PV.out _ XB.out
                have C1 := Lib.hid (cols_some (w := (wr.alloc (.cells #[.pointer (some ⟨s, 0, none⟩), .pointer (some ⟨s2, 0, none⟩), .int .i64 pt] 50))) (CA.out _ XB.out))
                have C2 := Lib.hid (cols_some (w := (wr.alloc (.cells #[.pointer (some ⟨s, 0, none⟩), .pointer (some ⟨s2, 0, none⟩), .int .i64 pt] 50))) (CB.out _ XB.out))
                generalize (wr.alloc (.cells #[.pointer (some ⟨s, 0, none⟩), .pointer (some ⟨s2, 0, none⟩), .int .i64 pt] 50)) = W2 at *
                generalize wr.heap.size = Bx at *
                go_wp2_with (first
                  | (go_at_call 25; with_reducible refine C2.out.mono ?_; rintro e w' ⟨rfl, rfl⟩)
                  | (go_at_call 25; with_reducible refine C1.out.mono ?_; rintro e w' ⟨rfl, rfl⟩))
                go_ret
                exact ⟨ret_int (chk_first hlt HT.out (by rw [CH.out]; simp [chkS, N5.out]) (by decide)).symm, by first | exact XB2.out | exact XB2.out.drewN _ | exact (XB2.out.drewN _).drewN _⟩
            · have n4' : ((na : Int) != (c0 : Int)) = true := by simp; omega
              have N4 := Lib.hid n4
              clear n4
              go_wp2_with (first
                | (go_at_call 45; with_reducible refine (SB1.out _ XB.out).mono ?_; rintro e w' ⟨rfl, rfl⟩)
                | (go_at_call 45; with_reducible refine (SA1.out _ XB.out).mono ?_; rintro e w' ⟨rfl, rfl⟩))
              have y0 := HB0.out.cell 0
              have y1 := HB0.out.cell 1
              have y2 := HB0.out.cell 2
              simp only [List.getElem?_cons_zero, List.getElem?_cons_succ] at y0 y1 y2
              have d0 := Z0.out _ XB.out
              have c3 := PV.out _ XB.out
              have C1 := Lib.hid (cols_some (w := (wr.alloc (.cells #[.pointer (some ⟨s, 0, none⟩), .pointer (some ⟨s2, 0, none⟩), .int .i64 pt] 50))) (CA.out _ XB.out))
              have C2 := Lib.hid (cols_some (w := (wr.alloc (.cells #[.pointer (some ⟨s, 0, none⟩), .pointer (some ⟨s2, 0, none⟩), .int .i64 pt] 50))) (CB.out _ XB.out))
              generalize (wr.alloc (.cells #[.pointer (some ⟨s, 0, none⟩), .pointer (some ⟨s2, 0, none⟩), .int .i64 pt] 50)) = W2 at *
              generalize wr.heap.size = Bx at *
              go_wp2_with (first
                | (go_at_call 25; with_reducible refine C2.out.mono ?_; rintro e w' ⟨rfl, rfl⟩)
                | (go_at_call 25; with_reducible refine C1.out.mono ?_; rintro e w' ⟨rfl, rfl⟩))
              go_ret
              exact ⟨ret_int (chk_first hlt HT.out (by rw [CH.out]; simp [chkS, N4.out]) (by decide)).symm, by first | exact XB2.out | exact XB2.out.drewN _ | exact (XB2.out.drewN _).drewN _⟩
          · have n2' : (sb != -1) = true := by simpa using n2
            have N2 := Lib.hid n2
            clear n2
            go_wp2_with (first
              | (go_at_call 45; with_reducible refine (SB1.out _ XB.out).mono ?_; rintro e w' ⟨rfl, rfl⟩)
              | (go_at_call 45; with_reducible refine (SA1.out _ XB.out).mono ?_; rintro e w' ⟨rfl, rfl⟩))
            go_ret
            exact ⟨ret_int (chk_first hlt HT.out (by rw [CH.out]; simp [chkS, N2.out]) (by decide)).symm, by first | exact XB2.out | exact XB2.out.drewN _ | exact (XB2.out.drewN _).drewN _⟩
        · have n1' : (sa != 1) = true := by simpa using n1
          have N1 := Lib.hid n1
          clear n1
          go_wp2_with (first
            | (go_at_call 45; with_reducible refine (SB1.out _ XB.out).mono ?_; rintro e w' ⟨rfl, rfl⟩)
            | (go_at_call 45; with_reducible refine (SA1.out _ XB.out).mono ?_; rintro e w' ⟨rfl, rfl⟩))
          go_ret
          exact ⟨ret_int (chk_first hlt HT.out (by rw [CH.out]; simp [chkS, N1.out]) (by decide)).symm, by first | exact XB2.out | exact XB2.out.drewN _ | exact (XB2.out.drewN _).drewN _⟩
    · obtain rfl : j = l.length := by omega
      go_wp2
      go_ret
      exact ⟨ret_int HT.out.symm, hO⟩
end Go.Proofs.Yticpophdoiljfaa
