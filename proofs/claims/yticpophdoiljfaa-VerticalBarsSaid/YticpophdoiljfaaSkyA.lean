/- DERIVED. Contracts of package skyline, part A: columns, Max, Most, At, Side, Columns, permitted, size. -/
import Derived.Test.YticpophdoiljfaaMem
import Derived.StillTailTactics
import Derived.IntWalk
namespace Go.Proofs.Yticpophdoiljfaa
open Go.RowKit

/-- A skyline at block s: its side, and its heights (kept outwards) in block g. -/
structure Sky (w : World) (s g : Nat) (side : Int) (h : List Int) : Prop where
  head : Blk w s 86 [.int .i64 side, .slice (some ⟨g, 0, none⟩) h.length h.length]
  row : Blk w g 3 (h.map (.int .i64))
  sides : side = 1 ∨ side = -1
  pos : 0 < h.length
  few : h.length ≤ 65536
  low : ∀ x ∈ h, -1048576 ≤ x ∧ x ≤ 1048576

section
variable {w w' : World} {s g : Nat} {side : Int} {h : List Int}
theorem Sky.ne (hs : Sky w s g side h) : s ≠ g := hs.head.ne_ hs.row (by decide)
theorem Sky.only {S : List Nat} (hs : Sky w s g side h) (ho : Only S w w') (h1 : s ∉ S) (h2 : g ∉ S) : Sky w' s g side h :=
  ⟨hs.head.only ho h1, hs.row.only ho h2, hs.sides, hs.pos, hs.few, hs.low⟩
theorem Sky.drewN (hs : Sky w s g side h) (n : Nat) : Sky (w.drewN n) s g side h := ⟨hs.head, hs.row, hs.sides, hs.pos, hs.few, hs.low⟩
theorem Sky.side0 (hs : Sky w s g side h) : w.cell? ⟨s, 0, none⟩ = some (.int .i64 side) := by rw [hs.head.cell 0]; rfl
theorem Sky.out0 (hs : Sky w s g side h) : w.cell? ⟨s, 1, none⟩ = some (.slice (some ⟨g, 0, none⟩) h.length h.length) := by rw [hs.head.cell 1]; rfl
theorem Sky.alloc (hs : Sky w s g side h) (o : Obj) : Sky (w.alloc o) s g side h := ⟨hs.head.alloc o, hs.row.alloc o, hs.sides, hs.pos, hs.few, hs.low⟩
end

/-- The error of columns. -/
def colErr (n : Nat) (first last : Int) : Int := if first < 0 ∨ last < first ∨ (n : Int) ≤ last then 2 else 0

set_option maxRecDepth 20000 in
set_option maxHeartbeats 400000 in
theorem columns_any {w : World} {s g : Nat} {side : Int} {h : List Int} (hs : Sky w s g side h) (first last : Int) :
    Calls Try.prog 55 #[.pointer (some ⟨s, 0, none⟩), .int .i64 first, .int .i64 last] w
      fun e w' => e = .returned (.int .i64 (colErr h.length first last)) ∧ w = w' := by
  have hc := hs.head.cell 1
  simp at hc
  have hpos := hs.pos
  have hfew := hs.few
  go_enter Try.func55, Try.ntmps55
  go_wp2
  all_goals
    go_ret
    exact ⟨ret_int (by unfold colErr; split <;> omega), rfl⟩

/-- The greatest number of a list that is not empty. -/
def maxL : List Int → Int
  | [] => 0
  | x :: l => l.foldl max x
theorem foldl_max_snoc (l : List Int) (a x : Int) : (l ++ [x]).foldl max a = max (l.foldl max a) x := by simp
theorem maxL_snoc (l : List Int) (x : Int) (h : l ≠ []) : maxL (l ++ [x]) = max (maxL l) x := by
  cases l with
  | nil => exact absurd rfl h
  | cons a l => simp [maxL]
theorem maxL_take (l : List Int) (k : Nat) (h0 : 0 < k) (h : k < l.length) : maxL (l.take (k + 1)) = if maxL (l.take k) < l[k] then l[k] else maxL (l.take k) := by
  rw [take_snoc l k h, maxL_snoc]
  · omega
  · intro e
    have := congrArg List.length e
    simp at this
    rcases this with h | h
    · omega
    · subst h
      simp at *
theorem maxL_one (l : List Int) (h : 0 < l.length) : maxL (l.take 1) = l[0] := by
  cases l with
  | nil => simp at h
  | cons a l => simp [maxL]

theorem foldl_max_range (lo hi : Int) : ∀ (l : List Int) (a : Int), lo ≤ a ∧ a ≤ hi → (∀ x ∈ l, lo ≤ x ∧ x ≤ hi) → lo ≤ l.foldl max a ∧ l.foldl max a ≤ hi
  | [], a, ha, _ => ha
  | x :: l, a, ha, h => by
    refine foldl_max_range lo hi l (max a x) ?_ fun y hy => h y (List.mem_cons_of_mem _ hy)
    have := h x (List.mem_cons_self ..)
    omega
theorem maxL_range {l : List Int} (h : ∀ x ∈ l, -1048576 ≤ x ∧ x ≤ 1048576) : -1048576 ≤ maxL l ∧ maxL l ≤ 1048576 := by
  cases l with
  | nil => simp [maxL]
  | cons a l => exact foldl_max_range _ _ l a (h a (List.mem_cons_self ..)) fun y hy => h y (List.mem_cons_of_mem _ hy)

set_option maxRecDepth 20000 in
set_option maxHeartbeats 400000 in
theorem smax_any {w : World} (g off n c : Nat) (zs : List Int) (hn : zs.length = n) (h0 : 0 < n) (hb : n ≤ 65536)
    (hc : ∀ i, i < n → w.cell? ⟨g, off + i, none⟩ = some (.int .i64 (zs.getD i 0))) :
    Calls Try.prog 63 #[.slice (some ⟨g, off, none⟩) n c] w
      fun e w' => e = .returned (.int .i64 (maxL zs)) ∧ w = w' := by
  subst hn
  have h1 : (0 : Int) < zs.length := by omega
  have hc0 := hc 0 h0
  simp only [Nat.add_zero] at hc0
  go_enter Try.func63, Try.ntmps63
  go_wp2
  go_loop [3, 4] (fun m i => ∃ k : Nat, 1 ≤ k ∧ k ≤ zs.length ∧ i = .int .i64 k ∧ m = .int .i64 (maxL (zs.take k))) (fun _ i => zs.length - (intOf i).toNat)
  case atStart => exact ⟨1, by omega, by omega, rfl, by rw [maxL_one zs h0]⟩
  case round =>
    obtain ⟨k, hk1, hk, rfl, rfl⟩ := hrel
    by_cases hlt : k < zs.length
    · have hck := hc k hlt
      have HS := Lib.hid (maxL_take zs k (by omega) hlt)
      go_wp2
      go_round
      case rel => exact ⟨k + 1, by omega, by omega, by go_num, by rw [HS.out]⟩
      case measure => simp [intOf]; omega
    · go_wp2
      go_ret
      exact ⟨ret_int (by rw [List.take_of_length_le (by omega)]), rfl⟩

/-- The outermost height of columns, outwards. -/
def mostOut (h : List Int) (first last : Int) : Int := maxL ((h.drop first.toNat).take (last + 1 - first).toNat)

set_option maxRecDepth 20000 in
set_option maxHeartbeats 400000 in
theorem most_bad {w : World} {s g : Nat} {side : Int} {h : List Int} (hs : Sky w s g side h) (first last : Int) (hbad : colErr h.length first last = 2) :
    Calls Try.prog 58 #[.pointer (some ⟨s, 0, none⟩), .int .i64 first, .int .i64 last] w
      fun e w' => e = .returned (.tuple #[.int .i64 0, .int .i64 2]) ∧ w = w' := by
  have hb := Lib.hid hbad
  clear hbad
  go_enter Try.func58, Try.ntmps58
  go_wp2_with (go_at_call 55; refine (columns_any hs _ _).mono ?_; rintro e w' ⟨rfl, rfl⟩; rw [hb.out])
  go_ret2
  exact ⟨rfl, rfl⟩

set_option maxRecDepth 20000 in
set_option maxHeartbeats 400000 in
theorem most_ok {w : World} {s g : Nat} {side : Int} {h : List Int} (hs : Sky w s g side h) (first last : Int) (h0 : 0 ≤ first) (h1 : first ≤ last) (h2 : last < h.length) :
    Calls Try.prog 58 #[.pointer (some ⟨s, 0, none⟩), .int .i64 first, .int .i64 last] w
      fun e w' => e = .returned (.tuple #[.int .i64 (side * mostOut h first last), .int .i64 0]) ∧ ∃ n, w' = w.drewN n := by
  obtain ⟨a, rfl⟩ := Int.eq_ofNat_of_zero_le h0
  obtain ⟨b, rfl⟩ := Int.eq_ofNat_of_zero_le (Int.le_trans h0 h1)
  have hb := Lib.hid (show colErr h.length a b = 0 by unfold colErr; split <;> omega)
  have hpos := hs.pos
  have hfew := hs.few
  have hc0 := hs.head.cell 0
  have hc1 := hs.head.cell 1
  simp at hc0 hc1
  have hl := Lib.hid (show ((h.drop a).take (b + 1 - a)).length = b + 1 - a by simp; omega)
  have HC := Lib.hid (show ∀ i, i < b + 1 - a → w.cell? ⟨g, a + i, none⟩ = some (.int .i64 (((h.drop a).take (b + 1 - a)).getD i 0)) from fun i hi => by
    rw [hs.row.ints (a + i) (by omega)]
    simp [List.getD, hi])
  have e7 : IntKind.i64.wrap (side * maxL ((h.drop a).take (b + 1 - a))) = side * maxL ((h.drop a).take (b + 1 - a)) := by
    have := maxL_range (l := (h.drop a).take (b + 1 - a)) (fun x hx => hs.low x (List.mem_of_mem_drop (List.mem_of_mem_take hx)))
    rcases hs.sides with hh | hh <;> rw [hh] <;> exact IntWalk.i64_in _ (by omega)
  go_enter Try.func58, Try.ntmps58
  go_wp2_with (go_at_call 55; refine (columns_any hs _ _).mono ?_; rintro e w' ⟨rfl, rfl⟩; rw [hb.out])
  have e1 : IntKind.i64.wrap ((b : Int) + 1) = (b : Int) + 1 := IntWalk.i64_in _ (by omega)
  have e2 : (0 : Int) ≤ (b : Int) + 1 := by omega
  have e3 : ((b : Int) + 1).toNat = b + 1 := by omega
  have e4 : (a : Int) ≤ (b : Int) + 1 := by omega
  have e5 : (b : Int) + 1 ≤ (h.length : Int) := by omega
  have e6 : (0 : Int) ≤ (a : Int) := by omega
  go_quiet ((go_at_call 63; exact quiet_left (smax_any g a (b + 1 - a) _ ((h.drop a).take (b + 1 - a)) hl.out (by omega) (by omega) HC.out)))
  go_wp2
  go_ret2
  exact ⟨by unfold mostOut; rw [show ((b : Int) + 1 - (a : Int)).toNat = b + 1 - a by omega]; rfl, nq, rfl⟩

/-- What Most gives. -/
def mostV (side : Int) (h : List Int) (first last : Int) : Int := if colErr h.length first last = 0 then side * mostOut h first last else 0

theorem colErr_cases (n : Nat) (first last : Int) : (colErr n first last = 0 ∧ 0 ≤ first ∧ first ≤ last ∧ last < n) ∨ colErr n first last = 2 := by
  unfold colErr
  split <;> omega

theorem most_any {w : World} {s g : Nat} {side : Int} {h : List Int} (hs : Sky w s g side h) (first last : Int) :
    Calls Try.prog 58 #[.pointer (some ⟨s, 0, none⟩), .int .i64 first, .int .i64 last] w
      fun e w' => e = .returned (.tuple #[.int .i64 (mostV side h first last), .int .i64 (colErr h.length first last)]) ∧ ∃ n, w' = w.drewN n := by
  rcases colErr_cases h.length first last with ⟨h0, h1, h2, h3⟩ | h0
  · exact (most_ok hs first last h1 h2 h3).mono fun e w' ⟨he, n, hn⟩ => ⟨by rw [he, mostV, if_pos h0, h0], n, hn⟩
  · exact (most_bad hs first last h0).mono fun e w' ⟨he, hn⟩ => ⟨by rw [he, mostV, if_neg (by omega), h0], 0, hn.symm⟩

set_option maxRecDepth 20000 in
set_option maxHeartbeats 400000 in
theorem at_any {w : World} {s g : Nat} {side : Int} {h : List Int} (hs : Sky w s g side h) (c : Int) :
    Calls Try.prog 44 #[.pointer (some ⟨s, 0, none⟩), .int .i64 c] w
      fun e w' => e = .returned (.tuple #[.int .i64 (mostV side h c c), .int .i64 (colErr h.length c c)]) ∧ ∃ n, w' = w.drewN n := by
  go_enter Try.func44, Try.ntmps44
  go_wp2_with (go_at_call 58; refine (most_any hs _ _).mono ?_; rintro e w' ⟨rfl, n, rfl⟩)
  go_ret2
  exact ⟨rfl, n, rfl⟩

set_option maxRecDepth 20000 in
set_option maxHeartbeats 400000 in
theorem side_any {w : World} {s g : Nat} {side : Int} {h : List Int} (hs : Sky w s g side h) :
    Calls Try.prog 45 #[.pointer (some ⟨s, 0, none⟩)] w fun e w' => e = .returned (.int .i64 side) ∧ w = w' := by
  have hc0 := hs.head.cell 0
  simp at hc0
  go_enter Try.func45, Try.ntmps45
  go_wp2
  go_ret
  exact ⟨rfl, rfl⟩

set_option maxRecDepth 20000 in
set_option maxHeartbeats 400000 in
theorem ncols_any {w : World} {s g : Nat} {side : Int} {h : List Int} (hs : Sky w s g side h) :
    Calls Try.prog 25 #[.pointer (some ⟨s, 0, none⟩)] w fun e w' => e = .returned (.int .i64 h.length) ∧ w = w' := by
  have hc1 := hs.head.cell 1
  simp at hc1
  go_enter Try.func25, Try.ntmps25
  go_wp2
  go_ret
  exact ⟨rfl, rfl⟩

/-- A height is permitted. -/
def okB (x : Int) : Bool := decide (-1048576 ≤ x ∧ x ≤ 1048576)
/-- A size is permitted. -/
def sizeB (x : Int) : Bool := decide (0 ≤ x ∧ x ≤ 1048576)

set_option maxRecDepth 20000 in
set_option maxHeartbeats 400000 in
theorem permitted_any (x : Int) (w : World) :
    Calls Try.prog 53 #[.int .i64 x] w fun e w' => e = .returned (.bool (okB x)) ∧ w = w' := by
  by_cases h1 : -1048576 ≤ x
  all_goals
    go_enter Try.func53, Try.ntmps53
    go_wp2
    go_ret
    exact ⟨ret_bool (by unfold okB; simp; try omega), rfl⟩

set_option maxRecDepth 20000 in
set_option maxHeartbeats 400000 in
theorem size_any (x : Int) (w : World) :
    Calls Try.prog 62 #[.int .i64 x] w fun e w' => e = .returned (.bool (sizeB x)) ∧ w = w' := by
  by_cases h1 : 0 ≤ x
  all_goals
    go_enter Try.func62, Try.ntmps62
    go_wp2
    go_ret
    exact ⟨ret_bool (by unfold sizeB; simp; try omega), rfl⟩
end Go.Proofs.Yticpophdoiljfaa
