/- DERIVED. Vertical: Stack. -/
import Derived.Test.YticpophdoiljfaaStkC
import Derived.Deep.RegionLaw
namespace Go.Proofs.Yticpophdoiljfaa
open Go.RowKit
attribute [local go_sem ↓] Go.wp_at_zero Go.wp_at_succ

theorem own_ints {w : World} {base n : Nat} {v : Value} {l : List Int} (h : w.ownsRow base 3 1 v n (l.map (.int .i64))) :
    ∃ A c, v = .slice A n c ∧ l.length = n ∧ ∀ i (hi : i < l.length), ∃ D, A = some ⟨D, 0, none⟩ ∧ base ≤ D ∧ D < w.heap.size ∧ w.cell? ⟨D, i, none⟩ = some (.int .i64 l[i]) := by
  have hl : l.length = n := by have := h.1; simpa using this
  rcases h.2 with ⟨hv, hn⟩ | ⟨g, cap, cur, rfl, hb, hg, hr⟩
  · refine ⟨none, 0, by rw [hv, hn], hl, fun i hi => absurd hi (by omega)⟩
  · refine ⟨_, _, rfl, hl, fun i hi => ⟨g, rfl, hb, (h.lt g rfl).2, ?_⟩⟩
    rw [h.cellAt i (by omega)]
    simp [hi]

/-- What Stack gives. -/
def Stacked (w : World) (L : List SV) (gap least : Int) (e : Ending) (w' : World) : Prop :=
  ∃ g cap, e = .returned (.tuple #[.agg #[.slice (some ⟨g, 0, none⟩) L.length cap, .int .i64 (topTo L gap least L.length), .int .i64 (botTo L gap least L.length)], .int .i64 0]) ∧ w.heap.size ≤ g ∧ g < w'.heap.size ∧
    (∀ i, i < L.length → w'.cell? ⟨g, i, none⟩ = some (.int .i64 (midTo L gap least i))) ∧ Only [] w w'

theorem mid_range {l : List StaffR} {w : World} {k n : Nat} (h : Stv w k l n) {gap least : Int} (h0 : 0 ≤ gap) (h1 : gap ≤ 65536) (h2 : 1 ≤ least) (h3 : least ≤ 65536) : ∀ i, i < l.length → -(90000 * (i : Int)) ≤ midTo (l.map StaffR.v) gap least i ∧ midTo (l.map StaffR.v) gap least i ≤ 0
  | 0, _ => by simp [midTo]
  | i + 1, hi => by
    have ih := mid_range h h0 h1 h2 h3 i (by omega)
    have hl := (h.ok i (by omega)).lb.trans (h.ok (i + 1) hi).la.symm
    have hM := distM_low hl (by rw [(h.ok i (by omega)).lb]; exact h.npos) (h.low i (by omega)).2 (h.low (i + 1) hi).1
    rw [midTo, getD_map (show i < l.length by omega), getD_map hi, distV]
    omega
theorem dAt_range {l : List StaffR} {w : World} {k n : Nat} (h : Stv w k l n) {gap least : Int} (h0 : 0 ≤ gap) (h1 : gap ≤ 65536) (h2 : 1 ≤ least) (h3 : least ≤ 65536) (i : Nat) (hi : i + 1 < l.length) : least ≤ dAt (l.map StaffR.v) gap least i ∧ dAt (l.map StaffR.v) gap least i ≤ 90000 := by
  have hl := (h.ok i (by omega)).lb.trans (h.ok (i + 1) hi).la.symm
  have hM := distM_low hl (by rw [(h.ok i (by omega)).lb]; exact h.npos) (h.low i (by omega)).2 (h.low (i + 1) hi).1
  rw [dAt, getD_map (show i < l.length by omega), getD_map hi, distV]
  omega

/-- The system's block while its middles are collected. -/
structure Mids (w3 wr : World) (S G0 B : Nat) (j : Nat) (xs : List Value) (g cap : Nat) : Prop where
  blk : Blk wr S 24 [.slice (some ⟨g, 0, none⟩) (j + 1) cap, .int .i64 0, .int .i64 0]
  own : wr.ownsRow B 3 1 (.slice (some ⟨g, 0, none⟩) (j + 1) cap) (j + 1) xs
  far : g = G0 ∨ w3.heap.size ≤ g
  only : Only [S, G0] w3 wr

theorem Mids.step {w3 wr w2 : World} {S G0 B j g cap gg cap' : Nat} {xs ys : List Value} {o : Obj} {w1 : World} (hm : Mids w3 wr S G0 B j xs g cap) (h1 : w1 = (wr.alloc o).drew)
    (hown : w2.ownsRow B 3 1 (.slice (some ⟨gg, 0, none⟩) (j + 1 + 1) cap') (j + 1 + 1) ys) (hg : w1.grownBy w2 (Value.slice (some ⟨g, 0, none⟩) (j + 1) cap).ownBlock) (hat : (Value.slice (some ⟨g, 0, none⟩) (j + 1) cap).ownBlock = some gg ∨ gg = wr.heap.size + 1) (hS : S < w3.heap.size) :
    Mids w3 (w2.setCell ⟨S, 0, none⟩ (.slice (some ⟨gg, 0, none⟩) (j + 1 + 1) cap')) S G0 B (j + 1) ys gg cap' := by
  subst h1
  have hne : g ≠ S := fun e => own_far hm.own hm.blk (by decide) (by simp [Value.ownBlock, e])
  have hsz := hm.only.size
  have hgg : gg ≠ S := by
    rcases hat with h | h
    · simp [Value.ownBlock] at h; omega
    · omega
  have b2 : Blk w2 S 24 [.slice (some ⟨g, 0, none⟩) (j + 1) cap, .int .i64 0, .int .i64 0] :=
    (hg.block S (by simp; omega) (by simp [Value.ownBlock]; exact Ne.symm hne)).trans ((hm.blk.alloc o).drew)
  refine ⟨b2.set_ 0 _, ?_, ?_, ?_⟩
  · exact own_only hown ((Only.refl [S] w2).setCell (p := ⟨S, 0, none⟩) (.inl (by simp)) _) (by intro q hq; simp [Value.ownBlock] at hq ⊢; omega)
  · rcases hat with h | h
    · simp [Value.ownBlock] at h
      subst h
      exact hm.far
    · right; omega
  · refine (((hm.only.alloc o).drew).grown hg fun q hq => ?_).setCell (p := ⟨S, 0, none⟩) (.inl (by simp)) _
    simp [Value.ownBlock] at hq
    subst hq
    rcases hm.far with h | h
    · left; simp [h]
    · right; exact h

set_option maxRecDepth 20000 in
set_option maxHeartbeats 4000000 in
theorem Stack_ok {w : World} {k n : Nat} {l : List StaffR} (cap : Nat) (h : Stv w k l n) (gap least : Int) (h0 : 0 ≤ gap) (h1 : gap ≤ 65536) (h2 : 1 ≤ least) (h3 : least ≤ 65536) :
    Calls Try.prog 17 #[.slice (some ⟨k, 0, none⟩) l.length cap, .int .i64 gap, .int .i64 least] w fun e w' => Stacked w (l.map StaffR.v) gap least e w' := by
  obtain ⟨i0, hi0, hz0, hz1, hz2⟩ := info_parts int_info
  have hp := h.pos
  have hf := h.few
  have H := Lib.hid h
  have RM := Lib.hid (mid_range h h0 h1 h2 h3)
  have RD := Lib.hid (dAt_range h h0 h1 h2 h3)
  clear h
  go_enter Try.func17, Try.ntmps17
  have BS := Lib.hid (Blk.new w 24 [.slice none 0 0, .int .i64 0, .int .i64 0])
  have X0 := Lib.hid ((Only.refl [] w).alloc (.cells #[.slice none 0 0, .int .i64 0, .int .i64 0] 24))
  obtain ⟨S, hS⟩ : ∃ S, w.heap.size = S := ⟨_, rfl⟩
  have HS := Lib.hid hS
  rw [hS] at BS
  clear hS
  go_wp2_with (first
    | (go_at_call 37; refine (checkGaps_ok cap (H.out.newer X0.out (by simp)) gap least h0 h1 h2 h3).mono ?_; rintro e w1 ⟨rfl, o1⟩; have b1 := (BS.out.only o1 (by simp)).alloc (.cells #[.int .i64 0] 3); rw [HS.out]; have b10 := b1.cell 0; have b1f := b1.frozen 0; simp at b10)
    | (go_at_call 38; with_reducible refine (distances_any cap (H.out.newer (S := [S]) (((X0.out.trans o1).alloc (.cells #[.int .i64 0] 3)).more (T := [S]) (by simp) |>.setCell (p := ⟨S, 0, none⟩) (.inl (by simp)) (.slice (some ⟨w1.heap.size, 0, none⟩) 1 1)) (by intro q hq; simp at hq; rw [HS.out]; omega)) gap least h0 h1 h2 h3).mono ?_; rintro e w3 ⟨v, rfl, hown3, o3⟩; obtain ⟨A, c, rfl, hl, hat⟩ := own_ints hown3))
  have ls1 : S < w1.heap.size := by have h4 := o1.size; have h5 := HS.out; simp at h4; omega
  have X2 := Lib.hid (((X0.out.trans o1).alloc (.cells #[.int .i64 0] 3)).more (T := [S]) (by simp) |>.setCell (p := ⟨S, 0, none⟩) (.inl (by simp)) (.slice (some ⟨w1.heap.size, 0, none⟩) 1 1))
  have B2 := (b1.set_ 0 (.slice (some ⟨w1.heap.size, 0, none⟩) 1 1)).only o3 (by simp)
  have own1 : (w1.alloc (.cells #[.int .i64 0] 3)).ownsRow S 3 1 (.slice (some ⟨w1.heap.size, 0, none⟩) 1 1) 1 [.int .i64 0] := ⟨rfl, .inr ⟨w1.heap.size, 1, #[.int .i64 0], rfl, by omega, heap_alloc_new w1 _, Nat.le_refl _, by unfold maxLen; omega, rfl, rfl⟩⟩
  have own3 := own_only (own_only own1 ((Only.refl [S] _).setCell (p := ⟨S, 0, none⟩) (.inl (by simp)) (.slice (some ⟨w1.heap.size, 0, none⟩) 1 1)) (by intro q hq; simp [Value.ownBlock] at hq ⊢; omega)) o3 (by simp)
  have X3 := Lib.hid (X2.out.trans (o3.more (T := [S]) (by simp)))
  have hszD : ((w1.alloc (.cells #[.int .i64 0] 3)).setCell ⟨S, 0, none⟩ (.slice (some ⟨w1.heap.size, 0, none⟩) 1 1)).heap.size = w1.heap.size + 1 := by simp [World.setCell]
  rw [hszD] at hat
  have HAT := Lib.hid hat
  have HL := Lib.hid hl
  have HOWN3 := Lib.hid own3
  have HB2 := Lib.hid B2
  have h3s : w1.heap.size < w3.heap.size := by have := o3.size; omega
  clear hat hl own3 own1 B2 b1 b10 b1f o1 o3 hown3 hszD X2 X0 BS
  generalize w1.heap.size = G0 at *
  go_loopw [25] (fun i wr => ∃ (j g cp : Nat), j + 1 ≤ l.length ∧ i = .int .i64 j ∧ Mids w3 wr S G0 S j (((List.range (j + 1)).map (midTo (l.map StaffR.v) gap least)).map (.int .i64)) g cp) (fun i _ => l.length - (intOf i).toNat)
  case atStart => exact ⟨0, G0, 1, by omega, rfl, ⟨HB2.out, by simpa [midTo] using HOWN3.out, .inl rfl, Only.refl _ _⟩⟩
  case round =>
    obtain ⟨j, g, cp, hj, rfl, hm⟩ := hrel
    have HM := Lib.hid hm
    by_cases hlt : j < l.length - 1
    · obtain ⟨D, rfl, hD1, hD2, hD3⟩ := HAT.out j (by have := HL.out; omega)
      have ed : (dists (l.map StaffR.v) gap least)[j]'(by have := HL.out; omega) = dAt (l.map StaffR.v) gap least j := by simp [dists, dAt]
      rw [ed] at hD3
      have rd := RD.out j (by omega)
      have rm := RM.out j (by omega)
      have hD4 : wr.cell? ⟨D, j, none⟩ = some (.int .i64 (dAt (l.map StaffR.v) gap least j)) := (hm.only.cell (p := ⟨D, j, none⟩) hD2 (by simp; omega)).trans hD3
      have hown := hm.own
      have q1 : wr.cell? ⟨S, 0, none⟩ = some (.slice (some ⟨g, 0, none⟩) (j + 1) cp) := hm.blk.cell 0
      have q2 : wr.cell? ⟨g, j, none⟩ = some (.int .i64 (midTo (l.map StaffR.v) gap least j)) := by rw [hown.cellAt j (by omega)]; simp
      have f1 : wr.frozen? ⟨S, 0, none⟩ = false := hm.blk.frozen 0
      have hsw := hm.only.size
      have TM : Hid (midTo (l.map StaffR.v) gap least (j + 1) = midTo (l.map StaffR.v) gap least j - dAt (l.map StaffR.v) gap least j) := Lib.hid rfl
      generalize midTo (l.map StaffR.v) gap least j = mj at *
      generalize dAt (l.map StaffR.v) gap least j = dj at *
      have j0 : (0 : Int) ≤ (j : Int) := by omega
      have j1 : (j : Int) < ((l.length - 1 : Nat) : Int) := by omega
      have j2 : (j : Int) < ((j + 1 : Nat) : Int) := by omega
      have bw : -1000000 ≤ mj - dj ∧ mj - dj ≤ 1000000 := by omega
      have ww : IntKind.i64.wrap (mj - dj) = mj - dj := IntWalk.i64_in _ (by omega)
      have hSW : S < wr.heap.size := hm.blk.lt
      have hGW : g < wr.heap.size := (hown.lt g rfl).2
      have av : (Value.slice (some ⟨g, 0, none⟩) (j + 1) cp).ownBlock ≠ some S := own_far hown hm.blk (by decide)
      have Z1 := Lib.hid (show (wr.alloc (.cells #[Value.int .i64 (mj - dj)] 3)).drew.cell? ⟨S, 0, none⟩ = some (.slice (some ⟨g, 0, none⟩) (j + 1) cp) from (World.cell?_alloc_lt wr _ ⟨S, 0, none⟩ hSW).trans q1)
      have Z3 := Lib.hid (show S < (wr.alloc (.cells #[Value.int .i64 (mj - dj)] 3)).drew.heap.size by simp; omega)
      have Z5 := Lib.hid (show (wr.alloc (.cells #[Value.int .i64 (mj - dj)] 3)).drew.frozen? ⟨S, 0, none⟩ = false from (World.frozen?_alloc_old wr _ ⟨S, 0, none⟩ (Nat.ne_of_lt hSW)).trans f1)
      have z1 : (wr.alloc (.cells #[Value.int .i64 (mj - dj)] 3)).cell? ⟨S, 0, none⟩ = some (.slice (some ⟨g, 0, none⟩) (j + 1) cp) := Z1.out
      have HRM := Lib.hid rm
      have HRD := Lib.hid rd
      clear hm hD3 rm rd ed
      have j3 : (j : Int) < (j : Int) + 1 := by omega
      have n1 := World.new_ne wr _ q1
      have n2 := World.new_ne wr _ q2
      go_wp2
      go_region_law
        ((refine step_append_lies _ (by rfl) _ _ _ (by rfl) S 3 i0 _ 1 8 Try.underlying22 hi0 hz0 hz1 hz2 rfl (by omega) (.slice (some ⟨g, 0, none⟩) (j + 1) cp) (j + 1) _ (by rfl) ((hown.alloc _).drew)
            ⟨wr.heap.size, 0, none⟩ 1 1 [.int .i64 (mj - dj)] (by rfl) (by rfl) (World.news_of_block (cs := #[.int .i64 (mj - dj)]) (t := 3) (fr := (0, 0)) (heap_alloc_new wr _)) (by simp [Value.oneCell'])
            (by omega) (by simp only [maxLen]; omega) (by omega) (by simp; omega) (wr.heap.size + 1) (by simp) ?_; intro gg cap' w2 hown1 hgrow hat hlt2; have s1 := (hgrow.cell_far ⟨S, 0, none⟩ Z3.out (Ne.symm av)).trans Z1.out; have s2 := (hgrow.frozen_far ⟨S, 0, none⟩ Z3.out (Ne.symm av)).trans Z5.out))
      all_goals
        go_wp2
        go_roundw
        case rel =>
          refine ⟨j + 1, gg, cap', by omega, by go_num, ?_⟩
          have := HM.out.step rfl hown1 hgrow hat (by omega)
          rw [List.range_succ, List.map_append, List.map_append, List.map_singleton, List.map_singleton, TM.out]
          exact this
        case measure => simp [intOf]; omega
    · skip
      have hown := hm.own
      have hjm : j + 1 = l.length := by omega
      have HC := Lib.hid (show ∀ i, i < l.length → wr.cell? ⟨g, i, none⟩ = some (.int .i64 (midTo (l.map StaffR.v) gap least i)) from fun i hi => by
        rw [hown.cellAt i (by omega), List.getElem?_map, List.getElem?_map, List.getElem?_range (show i < j + 1 by omega)]
        rfl)
      have hne : g ≠ S := fun e => own_far hm.own hm.blk (by decide) (by simp [Value.ownBlock, e])
      have hgw : g < wr.heap.size := (hown.lt g rfl).2
      have hSg : S ≤ g := (hown.lt g rfl).1
      have XW : Hid (Only [S] w wr) := Lib.hid (((X3.out.more (T := [S, G0]) (by simp)).trans hm.only).less fun q hq hlq => by
        have := HS.out
        simp at hq ⊢
        omega)
      have q1 : wr.cell? ⟨S, 0, none⟩ = some (.slice (some ⟨g, 0, none⟩) (j + 1) cp) := hm.blk.cell 0
      have HB := Lib.hid hm.blk
      clear hm hown
      obtain ⟨T, hT⟩ : ∃ T, topTo (l.map StaffR.v) gap least l.length = T := ⟨_, rfl⟩
      obtain ⟨U, hU⟩ : ∃ U, botTo (l.map StaffR.v) gap least l.length = U := ⟨_, rfl⟩
      have ET := Lib.hid (fun (W : World) (hW : Only [S] wr W) (hg : g < W.heap.size) => extreme_top cap (H.out.newer (XW.out.trans hW) (by intro q hq; simp at hq; rw [HS.out]; omega)) (midTo (l.map StaffR.v) gap least) g l.length cp (fun i hi => (hW.cell (p := ⟨g, i, none⟩) hgw (by simpa using hne)).trans (HC.out i hi)) (Nat.le_refl _) hg (fun i hi => by have := RM.out i hi; omega) rfl)
      have EB := Lib.hid (fun (W : World) (hW : Only [S] wr W) (hg : g < W.heap.size) => extreme_bot cap (H.out.newer (XW.out.trans hW) (by intro q hq; simp at hq; rw [HS.out]; omega)) (midTo (l.map StaffR.v) gap least) g l.length cp (fun i hi => (hW.cell (p := ⟨g, i, none⟩) hgw (by simpa using hne)).trans (HC.out i hi)) (Nat.le_refl _) hg (fun i hi => by have := RM.out i hi; omega) rfl)
      rw [topG_to, hT] at ET
      rw [botG_to, hU] at EB
      have HT := Lib.hid hT
      have HU := Lib.hid hU
      clear hT hU
      go_wp2_with fail
      refine (ET.out _ (Only.refl _ _) hgw).mono ?_
      rintro e w4 ⟨rfl, o4⟩
      have b4 := HB.out.only o4 (by simp)
      have b40 := b4.cell 0
      have b41 := b4.cell 1
      have b4f := b4.frozen 1
      simp at b40 b41
      go_wp2_with fail
      have o4' := (o4.more (T := [S]) (by simp)).setCell (p := ⟨S, 1, none⟩) (.inl (by simp)) (.int .i64 T)
      refine (EB.out _ o4' (Nat.lt_of_lt_of_le hgw o4'.size)).mono ?_
      rintro e w5 ⟨rfl, o5⟩
      have b5 := (b4.set_ 1 (.int .i64 T)).only o5 (by simp)
      have b50 := b5.cell 0
      have b51 := b5.cell 1
      have b52 := b5.cell 2
      have b5f := b5.frozen 2
      have b5f0 := b5.frozen 0
      have b5f1 := b5.frozen 1
      simp at b50 b51 b52
      go_wp2_with fail
      have b6 := (((b5.set_ 2 (.int .i64 U)).set_ 0 (.slice (some ⟨g, 0, none⟩) l.length cp)).set_ 1 (.int .i64 T)).set_ 2 (.int .i64 U)
      have c0 := b6.cell 0
      have c1 := b6.cell 1
      have c2 := b6.cell 2
      simp at c0 c1 c2
      have o6 := ((((o4'.trans (o5.more (T := [S]) (by simp))).setCell (p := ⟨S, 2, none⟩) (.inl (by simp)) (.int .i64 U)).setCell (p := ⟨S, 0, none⟩) (.inl (by simp)) (.slice (some ⟨g, 0, none⟩) l.length cp)).setCell (p := ⟨S, 1, none⟩) (.inl (by simp)) (.int .i64 T)).setCell (p := ⟨S, 2, none⟩) (.inl (by simp)) (.int .i64 U)
      have X6 := XW.out.trans o6
      refine bodyPost_ret (v := .tuple #[.agg #[.slice (some ⟨g, 0, none⟩) l.length cp, .int .i64 T, .int .i64 U], .int .i64 0]) (by simp [results, Try.results17, go_sem, c0, c1, c2]) rfl ⟨g, cp, ?_, ?_, ?_, ?_, ?_⟩
      · rw [List.length_map, HT.out, HU.out]
      · rw [HS.out]; exact hSg
      · exact Nat.lt_of_lt_of_le hgw o6.size
      · intro i hi
        rw [List.length_map] at hi
        exact (o6.cell (p := ⟨g, i, none⟩) hgw (by simpa using hne)).trans (HC.out i hi)
      · exact X6.less fun q hq hlq => by
          have := HS.out
          simp at hq
          omega
end Go.Proofs.Yticpophdoiljfaa
