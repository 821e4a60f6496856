/- DERIVED. Contracts of package skyline over a skyline whose row has spare cells behind it (a clone). -/
import Derived.Test.YtblcgfmgfepajaaModC
namespace Go.Proofs.Ytblcgfmgfepajaa
open Go.RowKit

/-- A skyline whose row has spare cells. -/
structure Gky (w : World) (s g cap : Nat) (sp : List Value) (side : Int) (h : List Int) : Prop where
  head : Blk w s 75 [.int .i64 side, .slice (some ⟨g, 0, none⟩) h.length cap]
  row : Blk w g 3 (h.map (.int .i64) ++ sp)
  capLe : h.length ≤ cap
  sides : side = 1 ∨ side = -1
  pos : 0 < h.length
  few : h.length ≤ 65536
  low : ∀ x ∈ h, -1048576 ≤ x ∧ x ≤ 1048576

theorem Blk.intsS {w : World} {g : Nat} {t : TypeId} {k : IntKind} {h : List Int} {sp : List Value} (hb : Blk w g t (h.map (.int k) ++ sp)) (i : Nat) (hi : i < h.length) : w.cell? ⟨g, i, none⟩ = some (.int k (h.getD i 0)) := by
  rw [hb.cell, List.getElem?_append_left (by simpa using hi)]
  simp [List.getD, hi]
theorem Sky.gky {w : World} {s g : Nat} {side : Int} {h : List Int} (hs : Sky w s g side h) : Gky w s g h.length [] side h :=
  ⟨hs.head, by simpa using hs.row, Nat.le_refl _, hs.sides, hs.pos, hs.few, hs.low⟩
section
variable {w w' : World} {s g cap : Nat} {sp : List Value} {side : Int} {h : List Int}
theorem Gky.ne (hs : Gky w s g cap sp side h) : s ≠ g := hs.head.ne_ hs.row (by decide)
theorem Gky.only {S : List Nat} (hs : Gky w s g cap sp side h) (ho : Only S w w') (h1 : s ∉ S) (h2 : g ∉ S) : Gky w' s g cap sp side h :=
  ⟨hs.head.only ho h1, hs.row.only ho h2, hs.capLe, hs.sides, hs.pos, hs.few, hs.low⟩
theorem Gky.drewN (hs : Gky w s g cap sp side h) (n : Nat) : Gky (w.drewN n) s g cap sp side h := ⟨hs.head, hs.row, hs.capLe, hs.sides, hs.pos, hs.few, hs.low⟩
theorem Gky.drew (hs : Gky w s g cap sp side h) : Gky w.drew s g cap sp side h := ⟨hs.head, hs.row, hs.capLe, hs.sides, hs.pos, hs.few, hs.low⟩
theorem Gky.alloc (hs : Gky w s g cap sp side h) (o : Obj) : Gky (w.alloc o) s g cap sp side h := ⟨hs.head.alloc o, hs.row.alloc o, hs.capLe, hs.sides, hs.pos, hs.few, hs.low⟩
theorem Gky.side0 (hs : Gky w s g cap sp side h) : w.cell? ⟨s, 0, none⟩ = some (.int .i64 side) := by rw [hs.head.cell 0]; rfl
theorem Gky.out0 (hs : Gky w s g cap sp side h) : w.cell? ⟨s, 1, none⟩ = some (.slice (some ⟨g, 0, none⟩) h.length cap) := by rw [hs.head.cell 1]; rfl
theorem Gky.ints (hs : Gky w s g cap sp side h) (i : Nat) (hi : i < h.length) : w.cell? ⟨g, i, none⟩ = some (.int .i64 (h.getD i 0)) := hs.row.intsS i hi
theorem Gky.at_ (hs : Gky w s g cap sp side h) (i : Nat) (hi : i < h.length) : w.cell? ⟨g, i, none⟩ = some (.int .i64 h[i]) := by rw [hs.ints i hi]; simp [List.getD, hi]
end


set_option maxHeartbeats 400000 in
theorem gcolumns_any {w : World} {s g cap : Nat} {sp : List Value} {side : Int} {h : List Int} (hs : Gky w s g cap sp side h) (first last : Int) :
    Calls Try.prog 38 #[.pointer (some ⟨s, 0, none⟩), .int .i64 first, .int .i64 last] w
      fun e w' => e = .returned (.int .i64 (colErr h.length first last)) ∧ w = w' := by
  have hc := hs.head.cell 1
  simp at hc
  have hpos := hs.pos
  have hfew := hs.few
  go_enter Try.func38, Try.ntmps38
  go_wp2
  all_goals
    go_ret
    exact ⟨ret_int (by unfold colErr; split <;> omega), rfl⟩


set_option maxHeartbeats 400000 in
theorem gmost_bad {w : World} {s g cap : Nat} {sp : List Value} {side : Int} {h : List Int} (hs : Gky w s g cap sp side h) (first last : Int) (hbad : colErr h.length first last = 2) :
    Calls Try.prog 16 #[.pointer (some ⟨s, 0, none⟩), .int .i64 first, .int .i64 last] w
      fun e w' => e = .returned (.tuple #[.int .i64 0, .int .i64 2]) ∧ w = w' := by
  have hb := Lib.hid hbad
  clear hbad
  go_enter Try.func16, Try.ntmps16
  go_wp2_with (go_at_call 38; refine (gcolumns_any hs _ _).mono ?_; rintro e w' ⟨rfl, rfl⟩; rw [hb.out])
  go_ret2
  exact ⟨rfl, rfl⟩


set_option maxHeartbeats 400000 in
theorem gmost_ok {w : World} {s g cap : Nat} {sp : List Value} {side : Int} {h : List Int} (hs : Gky w s g cap sp side h) (first last : Int) (h0 : 0 ≤ first) (h1 : first ≤ last) (h2 : last < h.length) :
    Calls Try.prog 16 #[.pointer (some ⟨s, 0, none⟩), .int .i64 first, .int .i64 last] w
      fun e w' => e = .returned (.tuple #[.int .i64 (side * mostOut h first last), .int .i64 0]) ∧ ∃ n, w' = w.drewN n := by
  obtain ⟨a, rfl⟩ := Int.eq_ofNat_of_zero_le h0
  obtain ⟨b, rfl⟩ := Int.eq_ofNat_of_zero_le (Int.le_trans h0 h1)
  have hb := Lib.hid (show colErr h.length a b = 0 by unfold colErr; split <;> omega)
  have hpos := hs.pos
  have hfew := hs.few
  have hc0 := hs.head.cell 0
  have hc1 := hs.head.cell 1
  simp at hc0 hc1
  have hl := Lib.hid (show ((h.drop a).take (b + 1 - a)).length = b + 1 - a by simp; omega)
  have HC := Lib.hid (show ∀ i, i < b + 1 - a → w.cell? ⟨g, a + i, none⟩ = some (.int .i64 (((h.drop a).take (b + 1 - a)).getD i 0)) from fun i hi => by
    rw [hs.ints (a + i) (by omega)]
    simp [List.getD, hi])
  have e7 : IntKind.i64.wrap (side * maxL ((h.drop a).take (b + 1 - a))) = side * maxL ((h.drop a).take (b + 1 - a)) := by
    have := maxL_range (l := (h.drop a).take (b + 1 - a)) (fun x hx => hs.low x (List.mem_of_mem_drop (List.mem_of_mem_take hx)))
    rcases hs.sides with hh | hh <;> rw [hh] <;> exact IntWalk.i64_in _ (by omega)
  go_enter Try.func16, Try.ntmps16
  go_wp2_with (go_at_call 38; refine (gcolumns_any hs _ _).mono ?_; rintro e w' ⟨rfl, rfl⟩; rw [hb.out])
  have e1 : IntKind.i64.wrap ((b : Int) + 1) = (b : Int) + 1 := IntWalk.i64_in _ (by omega)
  have e2 : (0 : Int) ≤ (b : Int) + 1 := by omega
  have e3 : ((b : Int) + 1).toNat = b + 1 := by omega
  have e4 : (a : Int) ≤ (b : Int) + 1 := by omega
  have e5 : (b : Int) + 1 ≤ (cap : Int) := by have := hs.capLe; omega
  have e6 : (0 : Int) ≤ (a : Int) := by omega
  go_quiet ((go_at_call 39; exact quiet_left (smax_any g a (b + 1 - a) _ ((h.drop a).take (b + 1 - a)) hl.out (by omega) (by omega) HC.out)))
  go_wp2
  go_ret2
  exact ⟨by unfold mostOut; rw [show ((b : Int) + 1 - (a : Int)).toNat = b + 1 - a by omega]; rfl, nq, rfl⟩


theorem gmost_any {w : World} {s g cap : Nat} {sp : List Value} {side : Int} {h : List Int} (hs : Gky w s g cap sp side h) (first last : Int) :
    Calls Try.prog 16 #[.pointer (some ⟨s, 0, none⟩), .int .i64 first, .int .i64 last] w
      fun e w' => e = .returned (.tuple #[.int .i64 (mostV side h first last), .int .i64 (colErr h.length first last)]) ∧ ∃ n, w' = w.drewN n := by
  rcases colErr_cases h.length first last with ⟨h0, h1, h2, h3⟩ | h0
  · exact (gmost_ok hs first last h1 h2 h3).mono fun e w' ⟨he, n, hn⟩ => ⟨by rw [he, mostV, if_pos h0, h0], n, hn⟩
  · exact (gmost_bad hs first last h0).mono fun e w' ⟨he, hn⟩ => ⟨by rw [he, mostV, if_neg (by omega), h0], 0, hn.symm⟩


set_option maxHeartbeats 400000 in
theorem gat_any {w : World} {s g cap : Nat} {sp : List Value} {side : Int} {h : List Int} (hs : Gky w s g cap sp side h) (c : Int) :
    Calls Try.prog 17 #[.pointer (some ⟨s, 0, none⟩), .int .i64 c] w
      fun e w' => e = .returned (.tuple #[.int .i64 (mostV side h c c), .int .i64 (colErr h.length c c)]) ∧ ∃ n, w' = w.drewN n := by
  go_enter Try.func17, Try.ntmps17
  go_wp2_with (go_at_call 16; refine (gmost_any hs _ _).mono ?_; rintro e w' ⟨rfl, n, rfl⟩)
  go_ret2
  exact ⟨rfl, n, rfl⟩


set_option maxHeartbeats 400000 in
theorem gside_any {w : World} {s g cap : Nat} {sp : List Value} {side : Int} {h : List Int} (hs : Gky w s g cap sp side h) :
    Calls Try.prog 18 #[.pointer (some ⟨s, 0, none⟩)] w fun e w' => e = .returned (.int .i64 side) ∧ w = w' := by
  have hc0 := hs.head.cell 0
  simp at hc0
  go_enter Try.func18, Try.ntmps18
  go_wp2
  go_ret
  exact ⟨rfl, rfl⟩


set_option maxHeartbeats 400000 in
theorem gncols_any {w : World} {s g cap : Nat} {sp : List Value} {side : Int} {h : List Int} (hs : Gky w s g cap sp side h) :
    Calls Try.prog 19 #[.pointer (some ⟨s, 0, none⟩)] w fun e w' => e = .returned (.int .i64 h.length) ∧ w = w' := by
  have hc1 := hs.head.cell 1
  simp at hc1
  go_enter Try.func19, Try.ntmps19
  go_wp2
  go_ret
  exact ⟨rfl, rfl⟩


set_option maxHeartbeats 1000000 in
theorem graise_ok {w : World} {s g cap : Nat} {sp : List Value} {side : Int} {h : List Int} (hs : Gky w s g cap sp side h) (a b : Nat) (v : Int) (hab : a ≤ b) (hb : b < h.length) (hv : -1048576 ≤ v ∧ v ≤ 1048576) :
    Calls Try.prog 40 #[.pointer (some ⟨s, 0, none⟩), .int .i64 a, .int .i64 b, .int .i64 v] w
      fun e w' => e = .returned (.tuple #[]) ∧ Gky w' s g cap sp side (raised h a (b + 1) (side * v)) ∧ Only [g] w w' := by
  have hne := hs.ne
  have hfew := hs.few
  go_enter Try.func40, Try.ntmps40
  go_wp2
  go_loopw [8] (fun i wr => ∃ k : Nat, a ≤ k ∧ k ≤ b + 1 ∧ i = .int .i64 k ∧ Blk wr g 3 ((raised h a k (side * v)).map (.int .i64) ++ sp) ∧ Only [g] w wr) (fun i _ => b + 1 - (intOf i).toNat)
  case atStart => exact ⟨a, by omega, by omega, rfl, by rw [raised_none]; exact hs.row, Only.refl _ _⟩
  case round =>
    obtain ⟨k, hk1, hk2, rfl, hrow, ho⟩ := hrel
    have hhead := hs.head.only ho (by simpa using hne)
    by_cases hlt : k ≤ b
    · have hc0 := hhead.cell 0
      have hc1 := hhead.cell 1
      have hck := hrow.intsS k (by rw [raised_len]; omega)
      have hfk := hrow.frozen k
      simp only [List.getD, raised_at h a k (side * v) (by omega), List.getElem?_eq_getElem (show k < (raised h a k (side * v)).length by rw [raised_len]; omega), Option.getD_some] at hck
      simp at hc0 hc1
      have hw : IntKind.i64.wrap (side * v) = side * v := by
        rcases hs.sides with hh | hh <;> rw [hh] <;> exact IntWalk.i64_in _ (by omega)
      have h0 : (0 : Int) ≤ (k : Int) := by omega
      have h1 : (k : Int) < (h.length : Int) := by omega
      go_wp2
      go_still_tail 20, (by kernel_rfl)
      change wpList _ _ _ _ _ wr.drew
      go_wp2
      go_roundw
      case rel =>
        refine ⟨k + 1, by omega, by omega, by go_num, ?_, (ho.setCell (p := ⟨g, k, none⟩) (.inl (by simp)) _).drew⟩
        rw [raised_succ h a k (side * v) hk1 (by omega), List.map_set, ← List.set_append_left _ _ (by rw [List.length_map, raised_len]; omega)]
        exact (hrow.set_ k _).drew
      case measure => simp [intOf]; omega
    · go_wp2
      go_end0
      have e : k = b + 1 := by omega
      subst e
      refine ⟨rfl, ⟨?_, hrow, ?_, hs.sides, ?_, ?_, ?_⟩, ho⟩
      · rw [raised_len]; exact hhead
      · rw [raised_len]; exact hs.capLe
      · rw [raised_len]; exact hs.pos
      · rw [raised_len]; exact hs.few
      · exact raised_range hs.low (by rcases hs.sides with hh | hh <;> rw [hh] <;> omega)


set_option maxHeartbeats 400000 in
theorem gRaise_any {w : World} {s g cap : Nat} {sp : List Value} {side : Int} {h : List Int} (hs : Gky w s g cap sp side h) (first last v : Int) :
    Calls Try.prog 21 #[.pointer (some ⟨s, 0, none⟩), .int .i64 first, .int .i64 last, .int .i64 v] w
      fun e w' => e = .returned (.int .i64 (raiseE h first last v)) ∧ Gky w' s g cap sp side (raiseH side h first last v) ∧ Only [g] w w' := by
  rcases colErr_cases h.length first last with ⟨h0, h1, h2, h3⟩ | h0
  · have H0 := Lib.hid h0
    clear h0
    by_cases hv : okB v = true
    · have HV := Lib.hid hv
      clear hv
      obtain ⟨a, rfl⟩ := Int.eq_ofNat_of_zero_le h1
      obtain ⟨b, rfl⟩ := Int.eq_ofNat_of_zero_le (Int.le_trans h1 h2)
      go_enter Try.func21, Try.ntmps21
      go_wp2_with (first
        | (go_at_call 38; refine (gcolumns_any hs _ _).mono ?_; rintro e w' ⟨rfl, rfl⟩; rw [H0.out])
        | (go_at_call 36; refine (permitted_any _ _).mono ?_; rintro e w' ⟨rfl, rfl⟩; rw [HV.out])
        | (go_at_call 40; refine (graise_ok hs a b v (by omega) (by omega) (okB_iff.1 HV.out)).mono ?_; rintro e w' ⟨rfl, hs', ho⟩))
      go_ret
      refine ⟨ret_int (by rw [raiseE, if_pos ⟨H0.out, HV.out⟩]), ?_, ho⟩
      rw [raiseH, if_pos ⟨H0.out, HV.out⟩]
      simpa using hs'
    · have HV := Lib.hid (show okB v = false by simpa using hv)
      clear hv
      go_enter Try.func21, Try.ntmps21
      go_wp2_with (first
        | (go_at_call 38; refine (gcolumns_any hs _ _).mono ?_; rintro e w' ⟨rfl, rfl⟩; rw [H0.out])
        | (go_at_call 36; refine (permitted_any _ _).mono ?_; rintro e w' ⟨rfl, rfl⟩; rw [HV.out]))
      go_ret
      have hn : ¬ (colErr h.length first last = 0 ∧ okB v = true) := by rw [HV.out]; simp
      exact ⟨ret_int (by rw [raiseE, if_neg hn]), by rw [raiseH, if_neg hn]; exact hs, Only.refl _ _⟩
  · have H0 := Lib.hid h0
    clear h0
    go_enter Try.func21, Try.ntmps21
    go_wp2_with (go_at_call 38; refine (gcolumns_any hs _ _).mono ?_; rintro e w' ⟨rfl, rfl⟩; rw [H0.out])
    go_ret
    have hn : ¬ (colErr h.length first last = 0 ∧ okB v = true) := by rw [H0.out]; simp
    exact ⟨ret_int (by rw [raiseE, if_neg hn]), by rw [raiseH, if_neg hn]; exact hs, Only.refl _ _⟩

set_option maxHeartbeats 1000000 in
theorem gTouches_any {w : World} {s g cap : Nat} {sp : List Value} {side : Int} {h : List Int} (hs : Gky w s g cap sp side h) (first last l b r t : Int) :
    Calls Try.prog 24 #[.pointer (some ⟨s, 0, none⟩), .int .i64 first, .int .i64 last, .agg #[.int .i64 l, .int .i64 b, .int .i64 r, .int .i64 t]] w
      fun e w' => e = .returned (.bool (touchB side h first last b t)) ∧ Only [] w w' := by
  have hc0 := hs.side0
  have hlt := hs.head.lt
  rcases colErr_cases h.length first last with ⟨h0, -, -, -⟩ | h0
  · by_cases hbt : b < t
    · rcases hs.sides with hh | hh
      all_goals
        subst hh
        go_enter Try.func24, Try.ntmps24
        go_wp2_with (go_at_call 16; refine (gmost_any (hs.alloc _) _ _).mono ?_; rintro e w' ⟨rfl, n, rfl⟩)
        go_ret
        exact ⟨ret_bool (by simp [touchB, h0, hbt]), ((Only.refl [] w).alloc _).drewN _⟩
    · have hd : decide (t ≤ b) = true := by simp; omega
      go_enter Try.func24, Try.ntmps24
      go_wp2_with (go_at_call 16; refine (gmost_any (hs.alloc _) _ _).mono ?_; rintro e w' ⟨rfl, n, rfl⟩)
      go_ret
      exact ⟨ret_bool (by rw [touchB, if_neg (by omega)]), ((Only.refl [] w).alloc _).drewN _⟩
  · go_enter Try.func24, Try.ntmps24
    go_wp2_with (go_at_call 16; refine (gmost_any (hs.alloc _) _ _).mono ?_; rintro e w' ⟨rfl, n, rfl⟩)
    go_ret
    exact ⟨ret_bool (by simp [touchB, h0]), ((Only.refl [] w).alloc _).drewN _⟩
end Go.Proofs.Ytblcgfmgfepajaa
