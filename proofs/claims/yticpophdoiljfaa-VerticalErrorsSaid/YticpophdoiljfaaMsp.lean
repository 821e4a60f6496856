/- DERIVED. Vertical: the statements' spread. -/
import Derived.Test.YticpophdoiljfaaSpe
import Derived.Deep.RegionLaw
namespace Go.Proofs.Yticpophdoiljfaa
open Go.RowKit
attribute [local go_sem ↓] Go.wp_at_zero Go.wp_at_succ

/-- What the statements' spread gives. -/
def MSpreaded (w : World) (ms ps : List Int) (t b extra : Int) (e : Ending) (w' : World) : Prop :=
  ∃ g cap, e = .returned (sysV (some ⟨g, 0, none⟩) ms.length cap t (b - extra)) ∧ w.heap.size ≤ g ∧ g < w'.heap.size ∧
    (∀ i, i < ms.length → w'.cell? ⟨g, i, none⟩ = some (.int .i64 (spreadAt ms ps extra i))) ∧ Only [] w w'

/-- The model's system while its middles are collected. -/
structure MidsT (w3 wr : World) (S G0 : Nat) (T U : Int) (j : Nat) (xs : List Value) (g cap : Nat) : Prop where
  blk : Blk wr S 24 [.slice (some ⟨g, 0, none⟩) (j + 1) cap, .int .i64 T, .int .i64 U]
  own : wr.ownsRow G0 3 1 (.slice (some ⟨g, 0, none⟩) (j + 1) cap) (j + 1) xs
  far : g = G0 ∨ w3.heap.size ≤ g
  only : Only [S, G0] w3 wr

theorem MidsT.drewN {w3 wr : World} {S G0 j g cap : Nat} {T U : Int} {xs : List Value} (hm : MidsT w3 wr S G0 T U j xs g cap) (n : Nat) : MidsT w3 (wr.drewN n) S G0 T U j xs g cap :=
  ⟨hm.blk.drewN n, hm.own, hm.far, hm.only.drewN n⟩
theorem MidsT.step {w3 wr w2 : World} {S G0 j g cap gg cap' : Nat} {T U : Int} {xs ys : List Value} {o : Obj} {w1 : World} (hm : MidsT w3 wr S G0 T U j xs g cap) (h1 : w1 = (wr.alloc o).drew)
    (hown : w2.ownsRow G0 3 1 (.slice (some ⟨gg, 0, none⟩) (j + 1 + 1) cap') (j + 1 + 1) ys) (hg : w1.grownBy w2 (Value.slice (some ⟨g, 0, none⟩) (j + 1) cap).ownBlock) (hat : (Value.slice (some ⟨g, 0, none⟩) (j + 1) cap).ownBlock = some gg ∨ gg = wr.heap.size + 1) (hS : S < w3.heap.size) :
    MidsT w3 (w2.setCell ⟨S, 0, none⟩ (.slice (some ⟨gg, 0, none⟩) (j + 1 + 1) cap')) S G0 T U (j + 1) ys gg cap' := by
  subst h1
  have hne : g ≠ S := fun e => own_far hm.own hm.blk (by decide) (by simp [Value.ownBlock, e])
  have hsz := hm.only.size
  have hgg : gg ≠ S := by
    rcases hat with h | h
    · simp [Value.ownBlock] at h; omega
    · omega
  have b2 : Blk w2 S 24 [.slice (some ⟨g, 0, none⟩) (j + 1) cap, .int .i64 T, .int .i64 U] :=
    (hg.block S (by simp; omega) (by simp [Value.ownBlock]; exact Ne.symm hne)).trans ((hm.blk.alloc o).drew)
  refine ⟨b2.set_ 0 _, ?_, ?_, ?_⟩
  · exact own_only hown ((Only.refl [S] w2).setCell (p := ⟨S, 0, none⟩) (.inl (by simp)) _) (by intro q hq; simp [Value.ownBlock] at hq ⊢; omega)
  · rcases hat with h | h
    · simp [Value.ownBlock] at h
      subst h
      exact hm.far
    · right; omega
  · refine (((hm.only.alloc o).drew).grown hg fun q hq => ?_).setCell (p := ⟨S, 0, none⟩) (.inl (by simp)) _
    simp [Value.ownBlock] at hq
    subst hq
    rcases hm.far with h | h
    · left; simp [h]
    · right; exact h

set_option maxRecDepth 20000 in
set_option maxHeartbeats 8000000 in
theorem mspread_any {w : World} {A A' : Option Addr} {ms ps : List Int} (c c' : Nat) (t b extra : Int) (hI : IntsAt w A ms) (hl : ms.length ≤ 8) (hP : IntsAt w A' ps) (hp : Proper ms t b) (hlp : ps.length = ms.length) (x0 : 0 ≤ extra) (x1 : extra ≤ 65535) :
    Calls Try.prog 32 #[sysV A ms.length c t b, .slice A' ps.length c', .int .i64 extra] w fun e w' => MSpreaded w ms ps t b extra e w' := by
  obtain ⟨i0, hi0, hz0, hz1, hz2⟩ := info_parts int_info
  have X := Lib.hid (((Only.refl [] w).alloc (sysBox A ms.length c t b)).alloc (.cells #[.slice none 0 0, .int .i64 0, .int .i64 0] 24))
  have BX := Lib.hid ((Blk.new w 24 [.slice A ms.length c, .int .i64 t, .int .i64 b]).alloc (.cells #[.slice none 0 0, .int .i64 0, .int .i64 0] 24))
  have RB := Lib.hid (Blk.new (w.alloc (sysBox A ms.length c t b)) 24 [.slice none 0 0, .int .i64 0, .int .i64 0])
  have HI := Lib.hid (hI.only X.out (by simp))
  have HP := Lib.hid (hP.only X.out (by simp))
  have hz := hp.pos
  have HPR := Lib.hid hp
  have HLP := Lib.hid hlp
  have hb0 := hp.bot
  have hb1 : b ≤ 0 := by
    have h1 := hp.last
    have h2 := hp.rng (ms.length - 1) (by omega)
    rw [getD_get (show ms.length - 1 < ms.length by omega)] at h1
    omega
  have hl1 : ps.length ≤ ms.length := Nat.le_of_eq hlp
  have hl2 : ms.length ≤ ps.length := Nat.le_of_eq hlp.symm
  clear hI hP hp hlp
  obtain ⟨SZ, hSZ⟩ : ∃ SZ, w.heap.size = SZ := ⟨_, rfl⟩
  have HSZ := Lib.hid hSZ
  rw [hSZ] at BX
  rw [show (w.alloc (sysBox A ms.length c t b)).heap.size = SZ + 1 by rw [← hSZ]; simp] at RB
  clear hSZ
  go_enter Try.func32, Try.ntmps32
  go_wp2
  rw [HSZ.out]
  generalize (w.alloc (sysBox A ms.length c t b)).alloc (.cells #[.slice none 0 0, .int .i64 0, .int .i64 0] 24) = w1 at *
  go_loopw [7, 8] (fun s k wr => ∃ q n : Nat, q + 1 ≤ ps.length ∧ k = .int .i64 ((q : Int) + 1) ∧ s = .int .i64 (wtTo ps q) ∧ wr = w1.drewN n) (fun _ k _ => ps.length - (intOf k).toNat)
  case atStart => exact ⟨0, 0, by omega, by simp, rfl, rfl⟩
  case round =>
    obtain ⟨q, n, hq, rfl, rfl, rfl⟩ := hrel
    have rq := wtTo_rng ps q
    have WT := Lib.hid (show wtTo ps (q + 1) = wtTo ps q + wt ps q from rfl)
    have WL := Lib.hid (wtTo_rng ps (ps.length - 1))
    by_cases hlt : q + 1 < ps.length
    · have rw1 := wt_rng ps q
      have HW := Lib.hid (fun i => weight_any c' ps (show IntsAt (w1.drewN i) A' ps from HP.out) (by omega) q hlt)
      generalize wtTo ps q = s at *
      generalize wt ps q = v at *
      have j1 : (q : Int) + 1 < (ps.length : Int) := by omega
      go_wp2_with (go_at_call 52; refine (HW.out _).mono ?_; rintro e w2 ⟨rfl, n2, rfl⟩)
      go_roundw
      case rel => exact ⟨q + 1, _, by omega, by go_num, by rw [WT.out], rfl⟩
      case measure => simp [intOf]; omega
    · obtain ⟨wh, hwh⟩ : ∃ wh, wtTo ps q = wh := ⟨_, rfl⟩
      have HWH : Hid (wtTo ps (ps.length - 1) = wh) := Lib.hid (by rw [← hwh]; congr 1; omega)
      have hw0 : (q : Int) ≤ wh := by omega
      have hw1 : wh ≤ 16 := by omega
      rw [hwh]
      clear hwh
      have XR := Lib.hid (X.out.drewN n)
      have BR := Lib.hid (BX.out.drewN n)
      have RR := Lib.hid (RB.out.drewN n)
      have HIR := Lib.hid (show IntsAt (w1.drewN n) A ms from HI.out)
      have HPR' := Lib.hid (show IntsAt (w1.drewN n) A' ps from HP.out)
      have RXR : SZ + 1 < (w1.drewN n).heap.size := RB.out.lt
      clear X BX HI HP RB
      generalize w1.drewN n = wr at *
      have y1 : wr.cell? ⟨SZ, 1, none⟩ = some (.int .i64 t) := BR.out.cell 1
      have y2 : wr.cell? ⟨SZ, 2, none⟩ = some (.int .i64 b) := BR.out.cell 2
      have B2 := BR.out.alloc (.cells #[.int .i64 0] 3)
      have z1 : (wr.alloc (.cells #[.int .i64 0] 3)).cell? ⟨SZ, 1, none⟩ = some (.int .i64 t) := B2.cell 1
      have z2 : (wr.alloc (.cells #[.int .i64 0] 3)).cell? ⟨SZ, 2, none⟩ = some (.int .i64 b) := B2.cell 2
      have e1 : IntKind.i64.wrap (b - extra) = b - extra := IntWalk.i64_in _ (by omega)
      clear B2
      go_wp2
      have W3X : Hid (Only [] wr ((wr.alloc (.cells #[.int .i64 0] 3)).alloc (.cells #[.slice (some ⟨wr.heap.size, 0, none⟩) 1 1, .int .i64 t, .int .i64 (b - extra)] 24))) := Lib.hid (((Only.refl [] wr).alloc _).alloc _)
      have BS := Lib.hid (Blk.new (wr.alloc (.cells #[.int .i64 0] 3)) 24 [.slice (some ⟨wr.heap.size, 0, none⟩) 1 1, .int .i64 t, .int .i64 (b - extra)])
      have own1 : (wr.alloc (.cells #[.int .i64 0] 3)).ownsRow wr.heap.size 3 1 (.slice (some ⟨wr.heap.size, 0, none⟩) 1 1) 1 [.int .i64 0] := ⟨rfl, .inr ⟨wr.heap.size, 1, #[.int .i64 0], rfl, by omega, heap_alloc_new wr _, Nat.le_refl _, by unfold maxLen; omega, rfl, rfl⟩⟩
      have OWN := Lib.hid (own1.alloc (.cells #[.slice (some ⟨wr.heap.size, 0, none⟩) 1 1, .int .i64 t, .int .i64 (b - extra)] 24))
      have SZ0 : Hid ((wr.alloc (.cells #[.int .i64 0] 3)).heap.size = wr.heap.size + 1) := Lib.hid (by simp)
      rw [SZ0.out] at BS
      try rw [SZ0.out]
      clear own1 SZ0 y1 y2 z1 z2
      obtain ⟨W3, hW3⟩ : ∃ W3, (wr.alloc (.cells #[.int .i64 0] 3)).alloc (.cells #[.slice (some ⟨wr.heap.size, 0, none⟩) 1 1, .int .i64 t, .int .i64 (b - extra)] 24) = W3 := ⟨_, rfl⟩
      rw [hW3] at W3X BS OWN
      (try simp only [World.heap_size_alloc])
      rw [hW3]
      clear hW3
      have XW := Lib.hid (XR.out.trans W3X.out)
      have BW := Lib.hid (BR.out.only W3X.out (by simp))
      have RW := Lib.hid (RR.out.only W3X.out (by simp))
      have gW : Hid (w.heap.size ≤ wr.heap.size) := Lib.hid XR.out.size
      clear BR RR
      generalize hG : wr.heap.size = G0 at *
      have HG := Lib.hid hG
      clear hG
      go_loopw [10, 11] (fun s k wr => ∃ q g cp : Nat, q + 1 ≤ ps.length ∧ k = .int .i64 ((q : Int) + 1) ∧ s = .int .i64 (wtTo ps q) ∧ MidsT W3 wr (G0 + 1) G0 t (b - extra) q (((List.range (q + 1)).map (spreadAt ms ps extra)).map (.int .i64)) g cp) (fun _ k _ => ps.length - (intOf k).toNat)
      case atStart => exact ⟨0, G0, 1, by omega, by simp, rfl, ⟨BS.out, by have h1 := HPR.out.zero; have h2 : spreadAt ms ps extra 0 = 0 := (by rw [spreadAt, h1]; simp [wtTo]); simpa [h2] using OWN.out, .inl rfl, Only.refl _ _⟩⟩
      case round =>
        obtain ⟨q, g, cp, hq2, rfl, rfl, hm⟩ := hrel
        have rq := wtTo_rng ps q
        have WT := Lib.hid (show wtTo ps (q + 1) = wtTo ps q + wt ps q from rfl)
        by_cases hlt : q + 1 < ps.length
        · have rw1 := wt_rng ps q
          have HO := Lib.hid ((W3X.out.more (T := [G0 + 1, G0]) (by simp)).trans hm.only)
          have HPN := Lib.hid (HPR'.out.only HO.out (by intro p hp; have := HG.out; simp at hp; omega))
          have HIN := Lib.hid (HIR.out.only HO.out (by intro p hp; have := HG.out; simp at hp; omega))
          have HW := Lib.hid (fun i => weight_any c' ps (show IntsAt (wr.drewN i) A' ps from HPN.out) (by omega) q hlt)
          have hqm : q + 1 < ms.length := by omega
          have rm := HPR.out.rng (q + 1) hqm
          have SA : Hid (spreadAt ms ps extra (q + 1) = ms[q + 1] - extra * (wtTo ps q + wt ps q) / wh) := Lib.hid (by rw [spreadAt, getD_get hqm, HWH.out]; rfl)
          have hle : wtTo ps q + wt ps q ≤ wh := by
            have h1 := wtTo_le ps (ps.length - 1 - (q + 1)) (q + 1)
            rw [show q + 1 + (ps.length - 1 - (q + 1)) = ps.length - 1 by omega, HWH.out] at h1
            exact h1
          obtain ⟨bA, off, hA, hbA, hc⟩ := HIN.out.flat hz
          subst hA
          have HM := Lib.hid hm
          have q1 : wr.cell? ⟨G0 + 1, 0, none⟩ = some (.slice (some ⟨g, 0, none⟩) (q + 1) cp) := hm.blk.cell 0
          have q2 : wr.cell? ⟨bA, off + (q + 1), none⟩ = some (.int .i64 ms[q + 1]) := hc (q + 1) hqm
          have q3 : wr.cell? ⟨SZ, 0, none⟩ = some (.slice (some ⟨bA, off, none⟩) ms.length c) := (BW.out.only hm.only (by simp; omega)).cell 0
          have f1 : wr.frozen? ⟨G0 + 1, 0, none⟩ = false := hm.blk.frozen 0
          have hSW : G0 + 1 < wr.heap.size := hm.blk.lt
          have hGW : g < wr.heap.size := (hm.own.lt g rfl).2
          have av : (Value.slice (some ⟨g, 0, none⟩) (q + 1) cp).ownBlock ≠ some (G0 + 1) := own_far hm.own hm.blk (by decide)
          generalize wtTo ps q = s at *
          generalize wt ps q = v at *
          generalize ms[q + 1] = mj at *
          have b1 := mul_bd (s := s + v) x0 (by omega) (by omega) (by omega)
          have b2 := quo_bd (s := s + v) x0 (by omega) (by omega) hle (by omega)
          have qq1 : (extra * (s + v)).tdiv wh = extra * (s + v) / wh := Int.tdiv_eq_ediv_of_nonneg b1.1
          have qq2 : IntKind.i64.wrap (extra * (s + v)) = extra * (s + v) := IntWalk.i64_in _ (by omega)
          obtain ⟨qv, hqv⟩ : ∃ qv, extra * (s + v) / wh = qv := ⟨_, rfl⟩
          rw [hqv] at qq1 b2 SA
          clear hqv
          obtain ⟨pv, hpv⟩ : ∃ pv, extra * (s + v) = pv := ⟨_, rfl⟩
          rw [hpv] at qq1 qq2 b1
          have qq3 : IntKind.i64.wrap qv = qv := IntWalk.i64_in _ (by omega)
          have qq4 : IntKind.i64.wrap (mj - qv) = mj - qv := IntWalk.i64_in _ (by omega)
          have qq5 : IntKind.i64.wrap (extra * (s + v)) = pv := by rw [hpv]; exact qq2
          clear hpv hm hc rm
          have j0 : (0 : Int) ≤ (q : Int) + 1 := by omega
          have j1 : (q : Int) + 1 < (ps.length : Int) := by omega
          have j2 : (q : Int) + 1 < (ms.length : Int) := by omega
          have j6 : ((q : Int) + 1).toNat = q + 1 := by omega
          have nz : ¬ wh = 0 := by omega
          go_wp2_with (go_at_call 52; refine (HW.out 0).mono ?_; rintro e w2 ⟨rfl, n2, rfl⟩)
          have u1 : (wr.drewN n2).cell? ⟨G0 + 1, 0, none⟩ = some (.slice (some ⟨g, 0, none⟩) (q + 1) cp) := q1
          have u2 : (wr.drewN n2).cell? ⟨bA, off + (q + 1), none⟩ = some (.int .i64 mj) := q2
          have u3 : (wr.drewN n2).cell? ⟨SZ, 0, none⟩ = some (.slice (some ⟨bA, off, none⟩) ms.length c) := q3
          have g1 : (wr.drewN n2).frozen? ⟨G0 + 1, 0, none⟩ = false := f1
          have HM1 := Lib.hid (HM.out.drewN n2)
          have hSW1 : G0 + 1 < (wr.drewN n2).heap.size := hSW
          have hGW1 : g < (wr.drewN n2).heap.size := hGW
          clear q1 q2 q3 f1 HM HW HO HPN HIN hSW hGW
          generalize wr.drewN n2 = w4 at *
          have hown := HM1.out.own
          have Z1 := Lib.hid (show (w4.alloc (.cells #[Value.int .i64 (mj - qv)] 3)).drew.cell? ⟨G0 + 1, 0, none⟩ = some (.slice (some ⟨g, 0, none⟩) (q + 1) cp) from (World.cell?_alloc_lt w4 _ ⟨G0 + 1, 0, none⟩ hSW1).trans u1)
          have Z3 := Lib.hid (show G0 + 1 < (w4.alloc (.cells #[Value.int .i64 (mj - qv)] 3)).drew.heap.size by simp; omega)
          have Z5 := Lib.hid (show (w4.alloc (.cells #[Value.int .i64 (mj - qv)] 3)).drew.frozen? ⟨G0 + 1, 0, none⟩ = false from (World.frozen?_alloc_old w4 _ ⟨G0 + 1, 0, none⟩ (Nat.ne_of_lt hSW1)).trans g1)
          have z1 : (w4.alloc (.cells #[Value.int .i64 (mj - qv)] 3)).cell? ⟨G0 + 1, 0, none⟩ = some (.slice (some ⟨g, 0, none⟩) (q + 1) cp) := Z1.out
          have n1 := World.new_ne w4 _ u1
          have n2' := World.new_ne w4 _ u2
          have n3 := World.new_ne w4 _ u3
          have HS3 : Hid (G0 + 1 < W3.heap.size) := Lib.hid BS.out.lt
          go_wp2
          go_region_law
            ((refine step_append_lies _ (by rfl) _ _ _ (by rfl) G0 3 i0 _ 1 8 Try.underlying22 hi0 hz0 hz1 hz2 rfl (by omega) (.slice (some ⟨g, 0, none⟩) (q + 1) cp) (q + 1) _ (by rfl) ((hown.alloc _).drew)
                ⟨w4.heap.size, 0, none⟩ 1 1 [.int .i64 (mj - qv)] (by rfl) (by rfl) (World.news_of_block (cs := #[.int .i64 (mj - qv)]) (t := 3) (fr := (0, 0)) (heap_alloc_new w4 _)) (by simp [Value.oneCell'])
                (by omega) (by simp only [maxLen]; omega) (by omega) (by simp; omega) (w4.heap.size + 1) (by simp) ?_; intro gg cap' w2 hown1 hgrow hat hlt2; have s1 := (hgrow.cell_far ⟨G0 + 1, 0, none⟩ Z3.out (Ne.symm av)).trans Z1.out; have s2 := (hgrow.frozen_far ⟨G0 + 1, 0, none⟩ Z3.out (Ne.symm av)).trans Z5.out))
          all_goals
            go_wp2
            go_roundw
            case rel =>
              refine ⟨q + 1, gg, cap', by omega, by go_num, by rw [WT.out], ?_⟩
              have := HM1.out.step rfl hown1 hgrow hat HS3.out
              rw [List.range_succ, List.map_append, List.map_append, List.map_singleton, List.map_singleton, SA.out]
              exact this
            case measure => simp [intOf]; omega
        · have hqe : q + 1 = ms.length := by omega
          have c0 : wr.cell? ⟨G0 + 1, 0, none⟩ = some (.slice (some ⟨g, 0, none⟩) (q + 1) cp) := hm.blk.cell 0
          have c1 : wr.cell? ⟨G0 + 1, 1, none⟩ = some (.int .i64 t) := hm.blk.cell 1
          have c2 : wr.cell? ⟨G0 + 1, 2, none⟩ = some (.int .i64 (b - extra)) := hm.blk.cell 2
          have R7 := RW.out.only hm.only (by simp; omega)
          have d0 : wr.cell? ⟨SZ + 1, 0, none⟩ = some (.slice none 0 0) := R7.cell 0
          have d1 : wr.cell? ⟨SZ + 1, 1, none⟩ = some (.int .i64 0) := R7.cell 1
          have d2 : wr.cell? ⟨SZ + 1, 2, none⟩ = some (.int .i64 0) := R7.cell 2
          have f0 := R7.frozen 0
          have f1 := R7.frozen 1
          have f2 := R7.frozen 2
          have HC := Lib.hid (show ∀ i, i < ms.length → wr.cell? ⟨g, i, none⟩ = some (.int .i64 (spreadAt ms ps extra i)) from fun i hi => by
            rw [hm.own.cellAt i (by omega), List.getElem?_map, List.getElem?_map, List.getElem?_range (show i < q + 1 by omega)]
            rfl)
          have hgw : g < wr.heap.size := (hm.own.lt g rfl).2
          have hGg : G0 ≤ g := (hm.own.lt g rfl).1
          have HO := Lib.hid ((W3X.out.more (T := [G0 + 1, G0]) (by simp)).trans hm.only)
          have HR7 := Lib.hid R7
          have HQ := Lib.hid hqe
          clear hqe hm R7
          go_wp2
          have b9 := ((HR7.out.set_ 0 (.slice (some ⟨g, 0, none⟩) (q + 1) cp)).set_ 1 (.int .i64 t)).set_ 2 (.int .i64 (b - extra))
          have e0 := b9.cell 0
          have e1' := b9.cell 1
          have e2 := b9.cell 2
          simp at e0 e1' e2
          have o9 := (((Only.refl [SZ + 1] wr).setCell (p := ⟨SZ + 1, 0, none⟩) (.inl (by simp)) (.slice (some ⟨g, 0, none⟩) (q + 1) cp)).setCell (p := ⟨SZ + 1, 1, none⟩) (.inl (by simp)) (.int .i64 t)).setCell (p := ⟨SZ + 1, 2, none⟩) (.inl (by simp)) (.int .i64 (b - extra))
          have O9 := ((XR.out.more (T := [G0 + 1, G0, SZ + 1]) (by simp)).trans (HO.out.more (T := [G0 + 1, G0, SZ + 1]) (by intro k hk; simp at hk ⊢; omega))).trans (o9.more (T := [G0 + 1, G0, SZ + 1]) (by simp))
          refine bodyPost_ret (v := sysV (some ⟨g, 0, none⟩) (q + 1) cp t (b - extra)) (by simp [results, Try.results32, go_sem, e0, e1', e2]) rfl ⟨g, cp, by rw [HQ.out], ?_, ?_, fun i hi => ?_, O9.less fun p hp hlp => ?_⟩
          · have := gW.out; have := HG.out; omega
          · exact Nat.lt_of_lt_of_le hgw o9.size
          · exact (o9.cell (p := ⟨g, i, none⟩) hgw (by simp; omega)).trans (HC.out i hi)
          · have h1 := HSZ.out
            have h2 := gW.out
            have h3 := HG.out
            simp at hp
            omega
end Go.Proofs.Yticpophdoiljfaa
