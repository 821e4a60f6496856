/- DERIVED. Contracts of the statements' model, part A: ok, size, columns, most, raise. The model's heights are told outwards, as the skyline's. -/
import Derived.Test.YtblcgfmgfepajaaSkyC
namespace Go.Proofs.Ytblcgfmgfepajaa
open Go.RowKit

/-- A model at block m: its side, and its heights in block g (told outwards: h), with spare cells behind. -/
structure Mod (w : World) (m g cap : Nat) (sp : List Value) (side : Int) (h : List Int) : Prop where
  head : Blk w m 61 [.int .i64 side, .slice (some ⟨g, 0, none⟩) h.length cap]
  row : Blk w g 3 (h.map (fun x => .int .i64 (side * x)) ++ sp)
  capLe : h.length ≤ cap
  sides : side = 1 ∨ side = -1
  pos : 0 < h.length
  few : h.length ≤ 65536
  low : ∀ x ∈ h, -1048576 ≤ x ∧ x ≤ 1048576

section
variable {w w' : World} {m g cap : Nat} {sp : List Value} {side : Int} {h : List Int}
theorem Mod.ne (hs : Mod w m g cap sp side h) : m ≠ g := hs.head.ne_ hs.row (by decide)
theorem Mod.only {S : List Nat} (hs : Mod w m g cap sp side h) (ho : Only S w w') (h1 : m ∉ S) (h2 : g ∉ S) : Mod w' m g cap sp side h :=
  ⟨hs.head.only ho h1, hs.row.only ho h2, hs.capLe, hs.sides, hs.pos, hs.few, hs.low⟩
theorem Mod.drewN (hs : Mod w m g cap sp side h) (n : Nat) : Mod (w.drewN n) m g cap sp side h := ⟨hs.head, hs.row, hs.capLe, hs.sides, hs.pos, hs.few, hs.low⟩
theorem Mod.drew (hs : Mod w m g cap sp side h) : Mod w.drew m g cap sp side h := ⟨hs.head, hs.row, hs.capLe, hs.sides, hs.pos, hs.few, hs.low⟩
theorem Mod.alloc (hs : Mod w m g cap sp side h) (o : Obj) : Mod (w.alloc o) m g cap sp side h := ⟨hs.head.alloc o, hs.row.alloc o, hs.capLe, hs.sides, hs.pos, hs.few, hs.low⟩
theorem Mod.side0 (hs : Mod w m g cap sp side h) : w.cell? ⟨m, 0, none⟩ = some (.int .i64 side) := by rw [hs.head.cell 0]; rfl
theorem Mod.h0 (hs : Mod w m g cap sp side h) : w.cell? ⟨m, 1, none⟩ = some (.slice (some ⟨g, 0, none⟩) h.length cap) := by rw [hs.head.cell 1]; rfl
theorem Mod.at_ (hs : Mod w m g cap sp side h) {i : Nat} (hi : i < h.length) : w.cell? ⟨g, i, none⟩ = some (.int .i64 (side * h[i])) := by
  rw [hs.row.cell i]
  simp [List.getElem?_append, hi]
theorem row_set (side : Int) (h : List Int) (sp : List Value) (k : Nat) (v : Int) (hk : k < h.length) :
    (h.map (fun x => Value.int .i64 (side * x)) ++ sp).set k (.int .i64 (side * v)) = (h.set k v).map (fun x => Value.int .i64 (side * x)) ++ sp := by
  rw [List.set_append_left _ _ (by simpa using hk), List.map_set]
end

set_option maxHeartbeats 400000 in
theorem mok_any (x : Int) (w : World) :
    Calls Try.prog 15 #[.int .i64 x] w fun e w' => e = .returned (.bool (okB x)) ∧ w = w' := by
  by_cases h1 : -1048576 ≤ x
  all_goals
    go_enter Try.func15, Try.ntmps15
    go_wp2
    go_ret
    exact ⟨ret_bool (by unfold okB; simp; try omega), rfl⟩

set_option maxHeartbeats 400000 in
theorem msize_any (x : Int) (w : World) :
    Calls Try.prog 31 #[.int .i64 x] w fun e w' => e = .returned (.bool (sizeB x)) ∧ w = w' := by
  by_cases h1 : 0 ≤ x
  all_goals
    go_enter Try.func31, Try.ntmps31
    go_wp2
    go_ret
    exact ⟨ret_bool (by unfold sizeB; simp; try omega), rfl⟩

/-- The columns are permitted. -/
def colB (n : Nat) (first last : Int) : Bool := colErr n first last == 0

set_option maxHeartbeats 400000 in
theorem mcolumns_any {w : World} {m g cap : Nat} {sp : List Value} {side : Int} {h : List Int} (hs : Mod w m g cap sp side h) (first last : Int) :
    Calls Try.prog 27 #[.pointer (some ⟨m, 0, none⟩), .int .i64 first, .int .i64 last] w
      fun e w' => e = .returned (.bool (colB h.length first last)) ∧ w = w' := by
  have hc := hs.h0
  have hpos := hs.pos
  have hfew := hs.few
  by_cases h1 : 0 ≤ first
  · by_cases h2 : first ≤ last
    all_goals
      go_enter Try.func27, Try.ntmps27
      go_wp2
      go_ret
      exact ⟨ret_bool (by unfold colB colErr; split <;> simp <;> omega), rfl⟩
  · go_enter Try.func27, Try.ntmps27
    go_wp2
    go_ret
    exact ⟨ret_bool (by unfold colB colErr; split <;> simp <;> omega), rfl⟩

/-- The greatest of the heights from a to k - 1, beginning with that of a. -/
def mostTo (h : List Int) (a k : Nat) : Int := ((h.drop a).take (k - a)).foldl max (h.getD a 0)

theorem mostTo_start (h : List Int) (a : Nat) (ha : a < h.length) : mostTo h a a = h[a] := by simp [mostTo, List.getD, ha]
theorem mostTo_succ (h : List Int) (a k : Nat) (hak : a ≤ k) (hk : k < h.length) : mostTo h a (k + 1) = if mostTo h a k < h[k] then h[k] else mostTo h a k := by
  unfold mostTo
  rw [show k + 1 - a = (k - a) + 1 by omega, take_snoc _ _ (by simp; omega), foldl_max_snoc, List.getElem_drop]
  simp only [show a + (k - a) = k by omega]
  omega
theorem foldl_max_swap : ∀ (l : List Int) (a b : Int), l.foldl max (max a b) = max a (l.foldl max b)
  | [], _, _ => rfl
  | x :: l, a, b => by
    simp only [List.foldl_cons]
    rw [← foldl_max_swap l a (max b x)]
    congr 1
    omega
theorem mostTo_all (h : List Int) (a b : Nat) (hab : a ≤ b) (hb : b < h.length) : mostTo h a (b + 1) = mostOut h a b := by
  unfold mostTo mostOut
  rw [show ((a : Int)).toNat = a by omega, show ((b : Int) + 1 - (a : Int)).toNat = b + 1 - a by omega]
  have e : (h.drop a).take (b + 1 - a) = h[a] :: ((h.drop (a + 1)).take (b - a)) := by
    rw [List.drop_eq_getElem_cons (by omega), show b + 1 - a = (b - a) + 1 by omega, List.take_succ_cons]
  rw [e, List.foldl_cons, maxL]
  have e2 : h.getD a 0 = h[a] := by simp [List.getD, show a < h.length by omega]
  rw [e2, show max h[a] h[a] = h[a] by omega]

theorem mostTo_range {h : List Int} (hl : ∀ x ∈ h, -1048576 ≤ x ∧ x ≤ 1048576) (a k : Nat) (ha : a < h.length) : -1048576 ≤ mostTo h a k ∧ mostTo h a k ≤ 1048576 := by
  unfold mostTo
  refine foldl_max_range _ _ _ _ ?_ fun x hx => hl x (List.mem_of_mem_drop (List.mem_of_mem_take hx))
  simp only [List.getD, List.getElem?_eq_getElem ha, Option.getD_some]
  exact hl _ (List.getElem_mem _)

set_option maxHeartbeats 1000000 in
theorem mmost_ok {w : World} {m g cap : Nat} {sp : List Value} {side : Int} {h : List Int} (hs : Mod w m g cap sp side h) (a b : Nat) (hab : a ≤ b) (hb : b < h.length) :
    Calls Try.prog 28 #[.pointer (some ⟨m, 0, none⟩), .int .i64 a, .int .i64 b] w
      fun e w' => e = .returned (.int .i64 (side * mostOut h a b)) ∧ ∃ n, w' = w.drewN n := by
  have hc0 := hs.side0
  have hc1 := hs.h0
  have hfew := hs.few
  have hca := hs.at_ (show a < h.length by omega)
  have i0 : (0 : Int) ≤ (a : Int) := by omega
  have i1 : (a : Int) < (h.length : Int) := by omega
  go_enter Try.func28, Try.ntmps28
  go_wp2
  clear hca
  go_loopw [7, 8] (fun o i wr => ∃ k nq : Nat, a ≤ k ∧ k ≤ b + 1 ∧ i = .int .i64 k ∧ o = .int .i64 (side * mostTo h a k) ∧ wr = w.drewN nq) (fun _ i _ => b + 1 - (intOf i).toNat)
  case atStart => exact ⟨a, 0, by omega, by omega, rfl, by rw [mostTo_start h a (by omega)], rfl⟩
  case round =>
    obtain ⟨k, nq, hk1, hk2, rfl, rfl, rfl⟩ := hrel
    by_cases hlt : k ≤ b
    · have hck := hs.at_ (show k < h.length by omega)
      have j0 : (0 : Int) ≤ (k : Int) := by omega
      have j1 : (k : Int) < (h.length : Int) := by omega
      have hr := hs.low h[k] (List.getElem_mem _)
      have hm := mostTo_range hs.low a k (by omega)
      have s1 := side_side h[k] hs.sides
      have s2 := side_side (mostTo h a k) hs.sides
      have w1 : IntKind.i64.wrap h[k] = h[k] := IntWalk.i64_in _ (by omega)
      have w2 : IntKind.i64.wrap (mostTo h a k) = mostTo h a k := IntWalk.i64_in _ (by omega)
      have HS := Lib.hid (mostTo_succ h a k hk1 (by omega))
      by_cases hgt : mostTo h a k < h[k]
      all_goals
        go_wp2
        go_quiet (fail)
        go_wp2
        go_roundw
        case rel => exact ⟨k + 1, _, by omega, by omega, by go_num, by rw [HS.out]; first | rw [if_pos (by omega)] | rw [if_neg (by omega)], rfl⟩
        case measure => simp [intOf]; omega
    · go_wp2
      go_ret
      refine ⟨ret_int ?_, nq, rfl⟩
      rw [show k = b + 1 by omega, mostTo_all h a b hab hb]

theorem raised_succ_no (h : List Int) (a k : Nat) (v : Int) (ha : a ≤ k) (hk : k < h.length) (hn : ¬ h[k] < v) : raised h a (k + 1) v = raised h a k v := by
  rw [raised_succ h a k v ha hk, if_neg hn]
  apply List.ext_getElem (by simp)
  intro i h1 h2
  rw [List.getElem_set]
  split
  · rename_i e
    subst e
    rw [raised_at h a k v hk]
  · rfl

set_option maxHeartbeats 2000000 in
theorem mraise_ok {w : World} {m g cap : Nat} {sp : List Value} {side : Int} {h : List Int} (hs : Mod w m g cap sp side h) (a b : Nat) (v : Int) (hab : a ≤ b) (hb : b < h.length) (hv : okB v = true)
    (hcol : colB h.length a b = true) :
    Calls Try.prog 34 #[.pointer (some ⟨m, 0, none⟩), .int .i64 a, .int .i64 b, .int .i64 v] w
      fun e w' => e = .returned (.int .i64 0) ∧ Mod w' m g cap sp side (raised h a (b + 1) (side * v)) ∧ Only [g] w w' := by
  have hne := hs.ne
  have hfew := hs.few
  have bv := okB_iff.1 hv
  have bs := side_range 1048576 hs.sides bv
  have wv := mul_side (x := v) hs.sides (by omega)
  have V := Lib.hid (side_side v hs.sides)
  go_enter Try.func34, Try.ntmps34
  go_wp2_with (first
    | (go_at_call 27; refine (mcolumns_any hs _ _).mono ?_; rintro e w' ⟨rfl, rfl⟩)
    | (go_at_call 15; refine (mok_any _ _).mono ?_; rintro e w' ⟨rfl, rfl⟩))
  go_loopw [9] (fun i wr => ∃ k : Nat, a ≤ k ∧ k ≤ b + 1 ∧ i = .int .i64 k ∧ Mod wr m g cap sp side (raised h a k (side * v)) ∧ Only [g] w wr) (fun i _ => b + 1 - (intOf i).toNat)
  case atStart => exact ⟨a, by omega, by omega, rfl, by rw [raised_none]; exact hs, Only.refl _ _⟩
  case round =>
    obtain ⟨k, hk1, hk2, rfl, hm, ho⟩ := hrel
    by_cases hlt : k ≤ b
    · have hc0 := hm.side0
      have hc1 := hm.h0
      rw [raised_len] at hc1
      have hck := hm.at_ (show k < (raised h a k (side * v)).length by rw [raised_len]; omega)
      rw [raised_at h a k (side * v) (by omega)] at hck
      have hfk := hm.row.frozen k
      have hr := hs.low h[k] (List.getElem_mem _)
      have s1 := side_side h[k] hs.sides
      have w1 : IntKind.i64.wrap h[k] = h[k] := IntWalk.i64_in _ (by omega)
      have j0 : (0 : Int) ≤ (k : Int) := by omega
      have j1 : (k : Int) < (h.length : Int) := by omega
      have HM := Lib.hid hm
      clear hm
      by_cases hgt : h[k] < side * v
      · have HG := Lib.hid hgt
        go_wp2
        go_quiet (fail)
        go_wp2
        go_roundw
        case rel =>
          refine ⟨k + 1, by omega, by omega, by go_num, ⟨?_, ?_, ?_, hs.sides, ?_, ?_, ?_⟩, (ho.drewN _).setCell (p := ⟨g, k, none⟩) (.inl (by simp)) _⟩
          · rw [raised_len]; have := (HM.out.head.drewN nq).far (p := ⟨g, k, none⟩) hne (.int .i64 v); rw [raised_len] at this; exact this
          · rw [raised_succ h a k (side * v) hk1 (by omega), if_pos HG.out, ← row_set side _ sp k (side * v) (by rw [raised_len]; omega), V.out]
            exact (HM.out.row.drewN nq).set_ k _
          · rw [raised_len]; have := HM.out.capLe; rw [raised_len] at this; exact this
          · rw [raised_len]; exact hs.pos
          · rw [raised_len]; exact hs.few
          · exact raised_range hs.low bs
        case measure => simp [intOf]; omega
      · have HG := Lib.hid hgt
        go_wp2
        go_quiet (fail)
        go_wp2
        go_roundw
        case rel => exact ⟨k + 1, by omega, by omega, by go_num, by rw [raised_succ_no h a k _ hk1 (by omega) (Int.not_lt.2 HG.out)]; exact HM.out.drewN _, ho.drewN _⟩
        case measure => simp [intOf]; omega
    · go_wp2
      go_ret
      obtain rfl : k = b + 1 := by omega
      exact ⟨rfl, hm, ho⟩
end Go.Proofs.Ytblcgfmgfepajaa
