/- DERIVED. Vertical: equality of systems; sorted parts; checkParts, twice. -/
import Derived.Test.YticpophdoiljfaaNea
namespace Go.Proofs.Yticpophdoiljfaa
open Go.RowKit
attribute [local go_sem ↓] Go.wp_at_zero Go.wp_at_succ

set_option maxRecDepth 20000 in
set_option maxHeartbeats 1000000 in
theorem sequal_gen {w : World} {A A' : Option Addr} (c c' : Nat) (zs zs' : List Int) (hb : zs.length ≤ 65536) (hI : IntsAt w A zs) (hI' : IntsAt w A' zs') :
    Calls Try.prog 51 #[.slice A zs.length c, .slice A' zs'.length c'] w
      fun e w' => e = .returned (.bool (decide (zs = zs'))) ∧ ∃ n, w' = w.drewN n := by
  have HI := Lib.hid hI
  have HI' := Lib.hid hI'
  clear hI hI'
  by_cases hl : zs.length = zs'.length
  · have b1 : ((zs.length : Int) != (zs'.length : Int)) = false := by simp; omega
    go_enter Try.func51, Try.ntmps51
    go_wp2
    go_loopw [13] (fun i wr => ∃ j n : Nat, j ≤ zs.length ∧ i = .int .i64 j ∧ wr = w.drewN n ∧ (∀ q (h1 : q < zs.length) (h2 : q < zs'.length), q < j → zs[q] = zs'[q])) (fun i _ => zs.length - (intOf i).toNat)
    case atStart => exact ⟨0, 0, Nat.zero_le _, rfl, rfl, fun q _ _ hq => absurd hq (by omega)⟩
    case round =>
      obtain ⟨j, n, hj, rfl, rfl, hsame⟩ := hrel
      have HSA := Lib.hid hsame
      clear hsame
      by_cases hlt : j < zs.length
      · have hlt' : j < zs'.length := by omega
        obtain ⟨g, off, rfl, _, p0⟩ := HI.out j hlt
        obtain ⟨g', off', rfl, _, p1⟩ := HI'.out j hlt'
        have j0 : (0 : Int) ≤ (j : Int) := by omega
        have j1 : (j : Int) < (zs.length : Int) := by omega
        have j2 : (j : Int) < (zs'.length : Int) := by omega
        by_cases he : zs[j] = zs'[j]
        · have HE := Lib.hid he
          have b2 : (zs[j] != zs'[j]) = false := by simpa using he
          clear he
          go_wp2
          go_quiet (fail)
          go_wp2
          go_roundw
          case rel =>
            refine ⟨j + 1, _, by omega, by go_num, rfl, fun q h1 h2 hq => ?_⟩
            by_cases e : q = j
            · subst e; exact HE.out
            · exact HSA.out q h1 h2 (by omega)
          case measure => simp [intOf]; omega
        · have HE := Lib.hid he
          have b2 : (zs[j] != zs'[j]) = true := by simpa using he
          clear he
          go_wp2
          go_quiet (fail)
          go_wp2
          go_ret
          refine ⟨ret_bool ?_, n + nq, by simp⟩
          symm
          simp only [decide_eq_false_iff_not]
          intro e
          subst e
          exact HE.out rfl
      · obtain rfl : j = zs.length := by omega
        go_wp2
        go_ret
        refine ⟨ret_bool ?_, _, rfl⟩
        symm
        simp only [decide_eq_true_eq]
        exact List.ext_getElem hl fun q h1 h2 => HSA.out q h1 h2 h1
  · have b1 : ((zs.length : Int) != (zs'.length : Int)) = true := by simp; omega
    go_enter Try.func51, Try.ntmps51
    go_wp2
    go_ret
    refine ⟨ret_bool ?_, 0, rfl⟩
    symm
    simp only [decide_eq_false_iff_not]
    intro e
    subst e
    exact hl rfl

/-- Two systems are the same. -/
def sameB (ms ms' : List Int) (t t' b b' : Int) : Bool := decide (t = t' ∧ b = b' ∧ ms = ms')
theorem sameB_comm (ms ms' : List Int) (t t' b b' : Int) : sameB ms' ms t' t b' b = sameB ms ms' t t' b b' := by
  unfold sameB
  rw [decide_eq_decide]
  exact ⟨fun ⟨x, y, z⟩ => ⟨x.symm, y.symm, z.symm⟩, fun ⟨x, y, z⟩ => ⟨x.symm, y.symm, z.symm⟩⟩

/-- The two boxes of two systems. -/
theorem two_boxes (w : World) (A A' : Option Addr) (n n' c c' : Nat) (t t' b b' : Int) :
    Blk ((w.alloc (sysBox A n c t b)).alloc (sysBox A' n' c' t' b')) w.heap.size 24 [.slice A n c, .int .i64 t, .int .i64 b] ∧
    Blk ((w.alloc (sysBox A n c t b)).alloc (sysBox A' n' c' t' b')) (w.heap.size + 1) 24 [.slice A' n' c', .int .i64 t', .int .i64 b'] := by
  refine ⟨(Blk.new w _ _).alloc _, ?_⟩
  have := Blk.new (w.alloc (sysBox A n c t b)) 24 [.slice A' n' c', .int .i64 t', .int .i64 b']
  rw [World.size_alloc] at this
  exact this

set_option maxRecDepth 20000 in
set_option maxHeartbeats 4000000 in
theorem same_any {w : World} {A A' : Option Addr} {ms ms' : List Int} (c c' : Nat) (t t' b b' : Int) (hI : IntsAt w A ms) (hI' : IntsAt w A' ms') (hl : ms.length ≤ 65536) :
    Calls Try.prog 22 #[sysV A ms.length c t b, sysV A' ms'.length c' t' b'] w
      fun e w' => e = .returned (.bool (sameB ms ms' t t' b b')) ∧ Only [] w w' := by
  have X := Lib.hid (((Only.refl [] w).alloc (sysBox A ms.length c t b)).alloc (sysBox A' ms'.length c' t' b'))
  have HI := Lib.hid (hI.only X.out (by simp))
  have HI' := Lib.hid (hI'.only X.out (by simp))
  clear hI hI'
  by_cases ht : t = t'
  · subst ht
    by_cases hb : b = b'
    · subst hb
      by_cases hlm : ms.length = ms'.length
      · have n1 : ((ms.length : Int) != (ms'.length : Int)) = false := by simp; omega
        have BB := Lib.hid (two_boxes w A A' ms.length ms'.length c c' t t b b)
        have hlm1 : ms.length ≤ ms'.length := Nat.le_of_eq hlm
        have hlm2 : ms'.length ≤ ms.length := Nat.le_of_eq hlm.symm
        have HLM := Lib.hid hlm
        clear hlm
        have e1 : (t != t) = false := by simp
        have e2 : (b != b) = false := by simp
        go_enter Try.func22, Try.ntmps22
        go_wp2
        have z0 := BB.out.1.cell 0
        have z1 := BB.out.2.cell 0
        simp only [List.getElem?_cons_zero] at z0 z1
        clear BB
        obtain ⟨W1, hW1⟩ : ∃ W1, (w.alloc (sysBox A ms.length c t b)).alloc (sysBox A' ms'.length c' t b) = W1 := ⟨_, rfl⟩
        have hW1' : (w.alloc (.cells #[.slice A ms.length c, .int .i64 t, .int .i64 b] 24)).alloc (.cells #[.slice A' ms'.length c', .int .i64 t, .int .i64 b] 24) = W1 := hW1
        rw [hW1] at X HI HI' z0 z1
        rw [hW1']
        clear hW1 hW1'
        go_loopw [5] (fun i wr => ∃ j n : Nat, j ≤ ms.length ∧ i = .int .i64 j ∧ wr = W1.drewN n ∧ (∀ q (h1 : q < ms.length) (h2 : q < ms'.length), q < j → ms[q] = ms'[q])) (fun i _ => ms.length - (intOf i).toNat)
        case atStart => exact ⟨0, 0, Nat.zero_le _, rfl, rfl, fun q _ _ hq => absurd hq (by omega)⟩
        case round =>
          obtain ⟨j, n, hj, rfl, rfl, hsame⟩ := hrel
          have HSA := Lib.hid hsame
          clear hsame
          by_cases hlt : j < ms.length
          · have hlt' : j < ms'.length := by omega
            obtain ⟨g, off, rfl, _, p0⟩ := HI.out j hlt
            obtain ⟨g', off', rfl, _, p1⟩ := HI'.out j hlt'
            have j0 : (0 : Int) ≤ (j : Int) := by omega
            have j1 : (j : Int) < (ms.length : Int) := by omega
            have j2 : (j : Int) < (ms'.length : Int) := by omega
            have F := Lib.hid (fun (h : ms[j] ≠ ms'[j]) => show sameB ms ms' t t b b = false by
              simp only [sameB, decide_eq_false_iff_not]
              rintro ⟨_, _, e⟩
              subst e
              exact h rfl)
            have G := Lib.hid (fun (h : ms[j] = ms'[j]) => show ∀ q (h1 : q < ms.length) (h2 : q < ms'.length), q < j + 1 → ms[q] = ms'[q] from fun q h1 h2 hq => by
              by_cases e : q = j
              · subst e; exact h
              · exact HSA.out q h1 h2 (by omega))
            generalize ms[j] = x at *
            generalize ms'[j] = y at *
            by_cases he : x = y
            · have HE := Lib.hid he
              have b2 : (x != y) = false := by simpa using he
              clear he
              go_wp2
              go_quiet (fail)
              go_wp2
              go_roundw
              case rel => exact ⟨j + 1, _, by omega, by go_num, rfl, G.out HE.out⟩
              case measure => simp [intOf]; omega
            · have HE := Lib.hid he
              have b2 : (x != y) = true := by simpa using he
              clear he
              go_wp2
              go_quiet (fail)
              go_wp2
              go_ret
              exact ⟨ret_bool (F.out HE.out).symm, (X.out.drewN _).drewN _⟩
          · obtain rfl : j = ms.length := by omega
            go_wp2
            go_ret
            refine ⟨ret_bool ?_, X.out.drewN _⟩
            symm
            simp only [sameB, decide_eq_true_eq]
            exact ⟨trivial, trivial, List.ext_getElem HLM.out fun q h1 h2 => HSA.out q h1 h2 h1⟩
      · have n1 : ((ms.length : Int) != (ms'.length : Int)) = true := by simp; omega
        have HN := Lib.hid hlm
        clear hlm
        have e1 : (t != t) = false := by simp
        have e2 : (b != b) = false := by simp
        go_enter Try.func22, Try.ntmps22
        go_wp2
        go_ret
        refine ⟨ret_bool ?_, X.out⟩
        symm
        simp only [sameB, decide_eq_false_iff_not]
        rintro ⟨_, _, e⟩
        exact HN.out (by rw [e])
    · have e1 : (t != t) = false := by simp
      have e2 : (b != b') = true := by simpa using hb
      have HN := Lib.hid hb
      clear hb
      go_enter Try.func22, Try.ntmps22
      go_wp2
      go_ret
      refine ⟨ret_bool ?_, X.out⟩
      symm
      simp only [sameB, decide_eq_false_iff_not]
      rintro ⟨_, e, _⟩
      exact HN.out e
  · have e1 : (t != t') = true := by simpa using ht
    have HN := Lib.hid ht
    clear ht
    go_enter Try.func22, Try.ntmps22
    go_wp2
    go_ret
    refine ⟨ret_bool ?_, X.out⟩
    symm
    simp only [sameB, decide_eq_false_iff_not]
    rintro ⟨e, _, _⟩
    exact HN.out e

set_option maxRecDepth 20000 in
set_option maxHeartbeats 4000000 in
theorem Equal_any {w : World} {A A' : Option Addr} {ms ms' : List Int} (c c' : Nat) (t t' b b' : Int) (hI : IntsAt w A ms) (hI' : IntsAt w A' ms') (hl : ms.length ≤ 65536) :
    Calls Try.prog 31 #[sysV A ms.length c t b, sysV A' ms'.length c' t' b'] w
      fun e w' => e = .returned (.bool (sameB ms ms' t t' b b')) ∧ Only [] w w' := by
  have X := Lib.hid (((Only.refl [] w).alloc (sysBox A ms.length c t b)).alloc (sysBox A' ms'.length c' t' b'))
  have HQ := Lib.hid (sequal_gen c c' ms ms' hl (hI.only X.out (by simp)) (hI'.only X.out (by simp)))
  clear hI hI'
  by_cases ht : t = t'
  · subst ht
    by_cases hb : b = b'
    · subst hb
      have e1 : (t == t) = true := by simp
      have e2 : (b == b) = true := by simp
      go_enter Try.func31, Try.ntmps31
      go_wp2_with (go_at_call 51; refine HQ.out.mono ?_; rintro e w1 ⟨rfl, n, rfl⟩)
      go_ret
      exact ⟨ret_bool (by simp [sameB]), X.out.drewN _⟩
    · have e1 : (t == t) = true := by simp
      have e2 : (b == b') = false := by simpa using hb
      have HN := Lib.hid hb
      clear hb
      go_enter Try.func31, Try.ntmps31
      go_wp2
      go_ret
      refine ⟨ret_bool ?_, X.out⟩
      symm
      simp only [sameB, decide_eq_false_iff_not]
      rintro ⟨_, e, _⟩
      exact HN.out e
  · have e1 : (t == t') = false := by simpa using ht
    have HN := Lib.hid ht
    clear ht
    go_enter Try.func31, Try.ntmps31
    go_wp2
    go_ret
    refine ⟨ret_bool ?_, X.out⟩
    symm
    simp only [sameB, decide_eq_false_iff_not]
    rintro ⟨e, _, _⟩
    exact HN.out e

/-- The parts are in order. -/
def Sorted (ps : List Int) : Prop := ∀ i, i + 1 < ps.length → ps.getD i 0 ≤ ps.getD (i + 1) 0
noncomputable def sortedB (ps : List Int) : Bool := @decide (Sorted ps) (Classical.propDecidable _)
theorem sortedB_true {ps : List Int} (h : Sorted ps) : sortedB ps = true := by simp [sortedB, h]
theorem sortedB_false {ps : List Int} (h : ¬ Sorted ps) : sortedB ps = false := by simp [sortedB, h]

set_option maxRecDepth 20000 in
set_option maxHeartbeats 400000 in
theorem less_any (a b : Int) (v : Bool) (hv : decide (a < b) = v) (w : World) : Calls Try.prog 64 #[.int .i64 a, .int .i64 b] w fun e w' => e = .returned (.bool v) ∧ w = w' := by
  have a1 : (a != a) = false := by simp
  have b1 : (b != b) = false := by simp
  go_enter Try.func64, Try.ntmps64
  go_wp2
  go_ret
  exact ⟨ret_bool (by first | exact hv | simp), rfl⟩

set_option maxRecDepth 20000 in
set_option maxHeartbeats 1000000 in
theorem issorted_any {w : World} {A : Option Addr} (c : Nat) (ps : List Int) (hI : IntsAt w A ps) (hl : ps.length ≤ 65536) :
    Calls Try.prog 59 #[.slice A ps.length c] w fun e w' => e = .returned (.bool (sortedB ps)) ∧ ∃ n, w' = w.drewN n := by
  have HI := Lib.hid hI
  clear hI
  go_enter Try.func59, Try.ntmps59
  go_wp2
  go_loopw [3] (fun i wr => ∃ (z : Int) (n : Nat), z ≤ (ps.length : Int) - 1 ∧ i = .int .i64 z ∧ wr = w.drewN n ∧ -1 ≤ z ∧ (∀ q : Nat, z ≤ (q : Int) → q + 1 < ps.length → ps.getD q 0 ≤ ps.getD (q + 1) 0)) (fun i _ => (intOf i).toNat)
  case atStart => exact ⟨_, 0, Int.le_refl _, rfl, rfl, by omega, fun q h1 h2 => absurd h1 (by omega)⟩
  case round =>
    obtain ⟨z, n, hz, rfl, rfl, hz1, hs⟩ := hrel
    have HS := Lib.hid hs
    clear hs
    by_cases h0 : 0 < z
    · obtain ⟨q, rfl⟩ : ∃ q : Nat, z = (q : Int) + 1 := ⟨(z - 1).toNat, by omega⟩
      have hq : q + 1 < ps.length := by omega
      obtain ⟨b, off, rfl, _, p1⟩ := HI.out (q + 1) hq
      obtain ⟨b', off', hA, _, p0⟩ := HI.out q (by omega)
      simp only [Option.some.injEq, Addr.mk.injEq, and_true] at hA
      obtain ⟨rfl, rfl⟩ := hA
      have j0 : (0 : Int) ≤ (q : Int) + 1 := by omega
      have j1 : (q : Int) + 1 < (ps.length : Int) := by omega
      have j2 : ((q : Int) + 1 - 1) = (q : Int) := by omega
      have j3 : IntKind.i64.wrap ((q : Int)) = (q : Int) := IntWalk.i64_in _ (by omega)
      have j4 : (0 : Int) ≤ (q : Int) := by omega
      have j5 : (q : Int) < (ps.length : Int) := by omega
      have j6 : ((q : Int) + 1).toNat = q + 1 := by omega
      have GQ := Lib.hid (getD_get (show q < ps.length by omega))
      have GJ := Lib.hid (getD_get hq)
      generalize ps[q] = x at *
      generalize ps[q + 1] = y at *
      obtain ⟨v, hv⟩ : ∃ v, decide (y < x) = v := ⟨_, rfl⟩
      have HL := Lib.hid (fun W => less_any y x v hv W)
      have HV := Lib.hid hv
      clear hv
      cases v
      · go_wp2
        go_quiet ((first | (go_at_call 64; with_reducible exact quiet_add_left (HL.out _)) | (go_at_call 64; with_reducible exact quiet_left (HL.out _))))
        go_wp2
        go_roundw
        case rel =>
          refine ⟨q, _, by omega, by go_num, rfl, by omega, fun p h1 h2 => ?_⟩
          by_cases e : p = q
          · subst e
            have := HV.out
            rw [GQ.out, GJ.out]
            simpa using this
          · exact HS.out p (by omega) h2
        case measure => simp [intOf] <;> omega
      · go_wp2
        go_quiet ((first | (go_at_call 64; with_reducible exact quiet_add_left (HL.out _)) | (go_at_call 64; with_reducible exact quiet_left (HL.out _))))
        go_wp2
        go_ret
        refine ⟨ret_bool (sortedB_false fun hs => ?_).symm, n + nq, by simp⟩
        have := hs q hq
        rw [GQ.out, GJ.out] at this
        have h7 := HV.out
        simp at h7
        omega
    · go_wp2
      go_ret
      exact ⟨ret_bool (sortedB_true fun q hq => HS.out q (by omega) hq).symm, _, rfl⟩

/-- The error of a system and parts. -/
noncomputable def partsE (ms ps : List Int) (t b : Int) : Int := if properB ms t b = true then (if ps.length = ms.length then (if sortedB ps = true then 0 else 25) else 20) else 3

set_option maxRecDepth 20000 in
set_option maxHeartbeats 2000000 in
theorem vparts_any {w : World} {A A' : Option Addr} {ms ps : List Int} (c c' : Nat) (t b : Int) (hI : IntsAt w A ms) (hl : ms.length ≤ 8) (hP : IntsAt w A' ps) (hpl : ps.length ≤ 8) :
    Calls Try.prog 47 #[sysV A ms.length c t b, .slice A' ps.length c'] w fun e w' => e = .returned (.int .i64 (partsE ms ps t b)) ∧ Only [] w w' := by
  have X := Lib.hid ((Only.refl [] w).alloc (sysBox A ms.length c t b))
  have HB := Lib.hid (Blk.new w 24 [.slice A ms.length c, .int .i64 t, .int .i64 b])
  have HI := Lib.hid (hI.only X.out (by simp))
  have HP := Lib.hid (hP.only X.out (by simp))
  clear hI hP
  cases hpb : properB ms t b
  · have HPB := Lib.hid hpb
    clear hpb
    go_enter Try.func47, Try.ntmps47
    go_wp2_with (go_at_call 35; refine (vproper_any c t b HI.out hl).mono ?_; rintro e w1 ⟨rfl, o1⟩; rw [HPB.out])
    go_ret
    exact ⟨ret_int (by rw [partsE, HPB.out]; rfl), X.out.trans o1⟩
  · have HPB := Lib.hid hpb
    clear hpb
    by_cases hlm : ps.length = ms.length
    · have n1 : ((ps.length : Int) != (ms.length : Int)) = false := by simp; omega
      have HLM := Lib.hid hlm
      clear hlm
      cases hsb : sortedB ps
      all_goals
        have HSB := Lib.hid hsb
        clear hsb
        go_enter Try.func47, Try.ntmps47
        go_wp2_with (first
          | (go_at_call 35; refine (vproper_any c t b HI.out hl).mono ?_; rintro e w1 ⟨rfl, o1⟩; rw [HPB.out]; obtain ⟨b1, b10, b11, b12⟩ := sys_cells HB.out o1)
          | (go_at_call 59; refine (issorted_any c' ps (HP.out.only o1 (by simp)) (by omega)).mono ?_; rintro e w2 ⟨rfl, n2, rfl⟩; rw [HSB.out]))
        go_ret
        exact ⟨ret_int (by rw [partsE, if_pos HPB.out, if_pos HLM.out, HSB.out]; rfl), (X.out.trans o1).drewN _⟩
    · have n1 : ((ps.length : Int) != (ms.length : Int)) = true := by simp; omega
      have HLM := Lib.hid hlm
      clear hlm
      go_enter Try.func47, Try.ntmps47
      go_wp2_with (go_at_call 35; refine (vproper_any c t b HI.out hl).mono ?_; rintro e w1 ⟨rfl, o1⟩; rw [HPB.out]; obtain ⟨b1, b10, b11, b12⟩ := sys_cells HB.out o1)
      go_ret
      exact ⟨ret_int (by rw [partsE, if_pos HPB.out, if_neg HLM.out]), X.out.trans o1⟩

set_option maxRecDepth 20000 in
set_option maxHeartbeats 2000000 in
theorem mparts_any {w : World} {A A' : Option Addr} {ms ps : List Int} (c c' : Nat) (t b : Int) (hI : IntsAt w A ms) (hl : ms.length ≤ 8) (hP : IntsAt w A' ps) (hpl : ps.length ≤ 8) :
    Calls Try.prog 28 #[sysV A ms.length c t b, .slice A' ps.length c'] w fun e w' => e = .returned (.int .i64 (partsE ms ps t b)) ∧ Only [] w w' := by
  have X := Lib.hid ((Only.refl [] w).alloc (sysBox A ms.length c t b))
  have HB := Lib.hid (Blk.new w 24 [.slice A ms.length c, .int .i64 t, .int .i64 b])
  have HI := Lib.hid (hI.only X.out (by simp))
  have HP := Lib.hid (hP.only X.out (by simp))
  clear hI hP
  cases hpb : properB ms t b
  · have HPB := Lib.hid hpb
    clear hpb
    go_enter Try.func28, Try.ntmps28
    go_wp2_with (go_at_call 14; refine (mproper_any c t b HI.out hl).mono ?_; rintro e w1 ⟨rfl, o1⟩; rw [HPB.out])
    go_ret
    exact ⟨ret_int (by rw [partsE, HPB.out]; rfl), X.out.trans o1⟩
  · have HPB := Lib.hid hpb
    clear hpb
    by_cases hlm : ps.length = ms.length
    · have n1 : ((ps.length : Int) != (ms.length : Int)) = false := by simp; omega
      have HLM := Lib.hid hlm
      clear hlm
      go_enter Try.func28, Try.ntmps28
      go_wp2_with (go_at_call 14; refine (mproper_any c t b HI.out hl).mono ?_; rintro e w1 ⟨rfl, o1⟩; rw [HPB.out]; obtain ⟨b1, b10, b11, b12⟩ := sys_cells HB.out o1)
      have HP1 := Lib.hid (HP.out.only o1 (by simp))
      have X1 := Lib.hid (X.out.trans o1)
      clear b1 b10 b11 b12 o1 HP X n1
      go_loopw [5] (fun i wr => ∃ j n : Nat, 1 ≤ j ∧ i = .int .i64 j ∧ wr = w1.drewN n ∧ (j ≤ ps.length ∨ j = 1) ∧ (∀ q, q + 1 < ps.length → q + 1 < j → ps.getD q 0 ≤ ps.getD (q + 1) 0)) (fun i _ => ps.length - (intOf i).toNat)
      case atStart => exact ⟨1, 0, Nat.le_refl _, rfl, rfl, .inr rfl, fun q _ hq => absurd hq (by omega)⟩
      case round =>
        obtain ⟨j, n, hj1, rfl, rfl, hjo, hs⟩ := hrel
        have HS := Lib.hid hs
        clear hs
        by_cases hlt : j < ps.length
        · obtain ⟨q, rfl⟩ : ∃ q, j = q + 1 := ⟨j - 1, by omega⟩
          obtain ⟨bb, off, rfl, _, p1⟩ := HP1.out (q + 1) hlt
          obtain ⟨b', off', hA, _, p0⟩ := HP1.out q (by omega)
          simp only [Option.some.injEq, Addr.mk.injEq, and_true] at hA
          obtain ⟨rfl, rfl⟩ := hA
          have j0 : (0 : Int) ≤ ((q + 1 : Nat) : Int) := by omega
          have j1 : ((q + 1 : Nat) : Int) < (ps.length : Int) := by omega
          have j2 : (((q + 1 : Nat) : Int) - 1) = (q : Int) := by omega
          have j3 : IntKind.i64.wrap ((q : Int)) = (q : Int) := IntWalk.i64_in _ (by omega)
          have j4 : (0 : Int) ≤ (q : Int) := by omega
          have j5 : (q : Int) < (ps.length : Int) := by omega
          have GQ := Lib.hid (getD_get (show q < ps.length by omega))
          have GJ := Lib.hid (getD_get hlt)
          generalize ps[q] = x at *
          generalize ps[q + 1] = y at *
          by_cases hxy : y < x
          · have HX := Lib.hid hxy
            go_wp2
            go_quiet (fail)
            go_wp2
            go_ret
            refine ⟨ret_int ?_, (X1.out.drewN _).drewN _⟩
            rw [partsE, if_pos HPB.out, if_pos HLM.out, sortedB_false (fun hs => ?_)]
            · rfl
            · have := hs q hlt
              rw [GQ.out, GJ.out] at this
              omega
          · have hxy' : x ≤ y := by omega
            go_wp2
            go_quiet (fail)
            go_wp2
            go_roundw
            case rel =>
              refine ⟨q + 1 + 1, _, by omega, by go_num, rfl, by omega, fun p h1 h2 => ?_⟩
              by_cases e : p = q
              · subst e
                rw [GQ.out, GJ.out]
                exact hxy'
              · exact HS.out p h1 (by omega)
            case measure => simp [intOf]; omega
        · go_wp2
          go_ret
          refine ⟨ret_int ?_, X1.out.drewN _⟩
          rw [partsE, if_pos HPB.out, if_pos HLM.out, sortedB_true (fun q hq => HS.out q hq (by omega))]
          rfl
    · have n1 : ((ps.length : Int) != (ms.length : Int)) = true := by simp; omega
      have HLM := Lib.hid hlm
      clear hlm
      go_enter Try.func28, Try.ntmps28
      go_wp2_with (go_at_call 14; refine (mproper_any c t b HI.out hl).mono ?_; rintro e w1 ⟨rfl, o1⟩; rw [HPB.out]; obtain ⟨b1, b10, b11, b12⟩ := sys_cells HB.out o1)
      go_ret
      exact ⟨ret_int (by rw [partsE, if_pos HPB.out, if_neg HLM.out]), X.out.trans o1⟩
end Go.Proofs.Yticpophdoiljfaa
