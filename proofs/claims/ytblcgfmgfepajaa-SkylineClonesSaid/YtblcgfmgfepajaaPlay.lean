/- DERIVED. The statements' begin and play: a skyline and its model, of the same heights, behind any operations. -/
import Derived.Test.YtblcgfmgfepajaaModC
import Derived.Deep.AppendLies
import Derived.Deep.RegionHeld3
import Derived.Deep.DrawnRows
namespace Go.Proofs.Ytblcgfmgfepajaa
open Go.RowKit
attribute [local go_sem ↓] Go.wp_at_zero Go.wp_at_succ

/-- A start as a value. -/
abbrev startV (bl : Bool) (c hh : Int) : Value := .agg #[.bool bl, .int .u8 c, .int .i16 hh]

/-- A new skyline and its model have been returned. -/
def Begun (w : World) (side : Int) (h : List Int) (e : Ending) (w' : World) : Prop :=
  ∃ s g m k cap sp, e = .returned (.tuple #[.pointer (some ⟨s, 0, none⟩), .pointer (some ⟨m, 0, none⟩)]) ∧ w.heap.size ≤ s ∧ w.heap.size ≤ g ∧ w.heap.size ≤ m ∧ w.heap.size ≤ k ∧
    Both w' s g m k cap sp side h ∧ Only [] w w'

/-- The model's block while it is filled. -/
structure Filling (W w : World) (M base i : Nat) (side hh : Int) (v : Value) : Prop where
  head : Blk w M 61 [.int .i64 side, v]
  own : w.ownsRow base 3 1 v i (List.replicate i (.int .i64 hh))
  only : Only [M] W w

theorem mod_of_own {w : World} {M base i : Nat} {side hh : Int} {v : Value} (hs : side = 1 ∨ side = -1) (h0 : 0 < i) (h1 : i ≤ 65536) (hr : -1048576 ≤ hh ∧ hh ≤ 1048576)
    (hh' : Blk w M 61 [.int .i64 side, v]) (ho : w.ownsRow base 3 1 v i (List.replicate i (.int .i64 hh))) :
    ∃ k cap sp, base ≤ k ∧ Mod w M k cap sp side (newH side i hh) := by
  rcases ho.2 with ⟨_, h⟩ | ⟨k, cap, cur, rfl, hb, hg, hn, hm, hz, ht⟩
  · omega
  · refine ⟨k, cap, cur.toList.drop i, hb, ⟨?_, ?_, ?_, hs, ?_, ?_, ?_⟩⟩
    · simpa [newH] using hh'
    · unfold Blk
      have e : cur = ((newH side i hh).map (fun x => Value.int .i64 (side * x)) ++ cur.toList.drop i).toArray := by
        have : (newH side i hh).map (fun x => Value.int .i64 (side * x)) = cur.toList.take i := by
          rw [Nat.mul_one] at ht
          rw [ht, newH, List.map_replicate, side_side hh hs]
        rw [this, List.take_append_drop]
      rw [hg]
      exact congrArg (fun c => some (Obj.cells c _ (0, 0))) e
    · rw [newH, List.length_replicate]; exact hn
    · rw [newH, List.length_replicate]; exact h0
    · rw [newH, List.length_replicate]; exact h1
    · intro x hx
      rw [(List.mem_replicate.1 hx).2]
      exact side_range 1048576 hs hr

theorem Filling.step {W w w1 w2 : World} {M i : Nat} {side hh : Int} {v : Value} {o : Obj} {gg cap : Nat} (hF : Filling W w M W.heap.size i side hh v) 
    (h1 : w1 = (w.alloc o).drew)
    (hown : w2.ownsRow W.heap.size 3 1 (.slice (some ⟨gg, 0, none⟩) (i + 1) cap) (i + 1) (List.replicate i (.int .i64 hh) ++ [.int .i64 hh])) (hg : w1.grownBy w2 v.ownBlock) (av : v.ownBlock ≠ some M) (hMW : M < W.heap.size) :
    Filling W (w2.setCell ⟨M, 1, none⟩ (.slice (some ⟨gg, 0, none⟩) (i + 1) cap)) M W.heap.size (i + 1) side hh (.slice (some ⟨gg, 0, none⟩) (i + 1) cap) := by
  subst h1
  have hb := hown.lt gg rfl
  have hW := hF.head.lt
  have h1 : Only [M] W (w.alloc o).drew := (hF.only.alloc o).drew
  have h2 : Only [M] W w2 := h1.grown hg fun k hk => .inr (hF.own.lt k hk).1
  refine ⟨?_, ?_, h2.setCell (p := ⟨M, 1, none⟩) (.inl (by simp)) _⟩
  · have hM2 : Blk w2 M 61 [.int .i64 side, v] := (hg.block M (by simp; omega) (Ne.symm av)).trans ((hF.head.alloc o).drew)
    exact hM2.set_ 1 _
  · rw [List.replicate_succ']
    exact hown.kept (row := some M) ⟨rfl, rfl, rfl, by simp [World.setCell], fun k hk hn => Below.heap_setCell _ _ _ _ (fun e => hn (by rw [e]))⟩ (.inr (by simp [Value.ownBlock]; omega))

set_option maxHeartbeats 2000000 in
theorem begin_any (bl : Bool) (c hh : Int) (hc0 : 0 ≤ c) (hc1 : c ≤ 255) (hr : -32768 ≤ hh ∧ hh ≤ 32767) (w : World) :
    Calls Try.prog 20 #[startV bl c hh] w
      fun e w' => Begun w (if bl then -1 else 1) (newH (if bl then -1 else 1) (1 + c.toNat % 40) hh) e w' := by
  obtain ⟨i0, hi0, hz0, hz1, hz2⟩ := info_parts int_info
  obtain ⟨c, rfl⟩ := Int.eq_ofNat_of_zero_le hc0
  obtain ⟨n, hn⟩ : ∃ n, n = 1 + c % 40 := ⟨_, rfl⟩
  have hn1 : 1 ≤ n := by omega
  have hn2 : n ≤ 40 := by omega
  have e1 : (1 : Int) + (c : Int) % 40 = (n : Int) := by omega
  have hbox := Blk.new w 35 [.bool bl, .int .u8 c, .int .i16 hh]
  rw [Int.toNat_natCast, ← hn]
  clear hn
  cases bl
  · go_enter Try.func20, Try.ntmps20
    go_wp2_with (go_at_call 14; refine (new_ok 1 n hh (.inl rfl) hn1 (by omega) (by omega) _).mono ?_; rintro e w1 ⟨s, g, rfl, hs, hg, hsky, ho⟩; have hbox1 := hbox.only ho (by simp); have x2 := hbox1.cell 2; simp at x2)
    have hM := Blk.new w1 61 [.int .i64 1, .slice none 0 0]
    have y2 : (w1.alloc (.cells #[Value.int .i64 1, .slice none 0 0] 61)).cell? ⟨w.heap.size, 2, none⟩ = some (.int .i16 hh) := (hbox1.alloc _).cell 2
    have hsky' := hsky.alloc (.cells #[Value.int .i64 1, .slice none 0 0] 61)
    have hlt1 : w.heap.size < w1.heap.size := hbox1.lt
    have ho' : Only [] w (w1.alloc (.cells #[Value.int .i64 1, .slice none 0 0] 61)) := (((Only.refl [] w).alloc _).trans ho).alloc _
    have hsz : (w1.alloc (.cells #[Value.int .i64 1, .slice none 0 0] 61)).heap.size = w1.heap.size + 1 := by simp
    simp at hs hg
    have hs2 := hsky.head.lt
    have hg2 := hsky.row.lt
    clear hbox hbox1 ho hsky x2
    generalize w1.alloc (.cells #[Value.int .i64 1, .slice none 0 0] 61) = W at *
    generalize hMM : w1.heap.size = M at *
    generalize hBB : w.heap.size = B at *
    have HSZ := Lib.hid hsz
    have HMM := Lib.hid hMM
    have HBB := Lib.hid hBB
    clear hsz hMM hBB
    have hne : M ≠ B := by omega
    have hBW : B < W.heap.size := by have := HSZ.out; omega
    have hMW : M < W.heap.size := by have := HSZ.out; omega
    go_loopw [9] (fun i wr => ∃ (j : Nat) (v : Value), j ≤ n ∧ i = .int .i64 j ∧ Filling W wr M W.heap.size j 1 hh v) (fun i _ => n - (intOf i).toNat)
    case atStart => exact ⟨0, _, Nat.zero_le _, rfl, hM, World.ownsRow_nil _ _ _ _, Only.refl _ _⟩
    case round =>
      obtain ⟨j, v, hj, rfl, hF⟩ := hrel
      have HF := Lib.hid hF
      clear hM
      by_cases hlt : j < n
      · have q1 : wr.cell? ⟨M, 1, none⟩ = some v := hF.head.cell 1
        have q2 : wr.cell? ⟨B, 2, none⟩ = some (.int .i16 hh) := (hF.only.cell (p := ⟨B, 2, none⟩) hBW (by simpa using hne.symm)).trans y2
        have hown := hF.own
        have hsw := hF.only.size
        have f1 : wr.frozen? ⟨M, 1, none⟩ = false := hF.head.frozen 1
        have n1 := World.new_ne wr _ q1
        have n2 := World.new_ne wr _ q2
        have ww : IntKind.i64.wrap hh = hh := IntWalk.i64_in _ (by omega)
        have av : v.ownBlock ≠ some M := fun e => by have := (hown.lt M e).1; omega
        have avb : v.ownBlock ≠ some B := fun e => by have := (hown.lt B e).1; omega
        have Z1 := Lib.hid (show (wr.alloc (.cells #[Value.int .i64 hh] 3)).drew.cell? ⟨M, 1, none⟩ = some v from (World.cell?_alloc_lt wr _ ⟨M, 1, none⟩ (Nat.lt_of_lt_of_le hMW hsw)).trans q1)
        have Z2 := Lib.hid (show (wr.alloc (.cells #[Value.int .i64 hh] 3)).drew.cell? ⟨B, 2, none⟩ = some (.int .i16 hh) from (World.cell?_alloc_lt wr _ ⟨B, 2, none⟩ (Nat.lt_of_lt_of_le hBW hsw)).trans q2)
        have Z3 := Lib.hid (show M < (wr.alloc (.cells #[Value.int .i64 hh] 3)).drew.heap.size by simp; omega)
        have Z4 := Lib.hid (show B < (wr.alloc (.cells #[Value.int .i64 hh] 3)).drew.heap.size by simp; omega)
        have Z5 := Lib.hid (show (wr.alloc (.cells #[Value.int .i64 hh] 3)).drew.frozen? ⟨M, 1, none⟩ = false from (World.frozen?_alloc_old wr _ ⟨M, 1, none⟩ (Nat.ne_of_lt (Nat.lt_of_lt_of_le hMW hsw))).trans f1)
        have z1 : (wr.alloc (.cells #[Value.int .i64 hh] 3)).cell? ⟨M, 1, none⟩ = some v := Z1.out
        have z2 : (wr.alloc (.cells #[Value.int .i64 hh] 3)).cell? ⟨B, 2, none⟩ = some (.int .i16 hh) := Z2.out
        clear hF y2
        go_wp2
        go_region_law
          ((refine step_append_lies _ (by rfl) _ _ _ (by rfl) W.heap.size 3 i0 _ 1 8 Try.underlying59 hi0 hz0 hz1 hz2 rfl (by omega) v j (List.replicate j (.int .i64 hh)) (by rfl) ((hown.alloc _).drew)
              ⟨wr.heap.size, 0, none⟩ 1 1 [.int .i64 hh] (by rfl) (by rfl) (World.news_of_block (cs := #[.int .i64 hh]) (t := 3) (fr := (0, 0)) (heap_alloc_new wr _)) (by simp [Value.oneCell'])
              (by omega) (by simp only [maxLen]; omega) (by omega) (by simp; omega) (wr.heap.size + 1) (by simp) ?_; intro gg cap w2 hown1 hgrow hat hlt2; have s1 := (hgrow.cell_far ⟨M, 1, none⟩ Z3.out (Ne.symm av)).trans Z1.out; have s2 := (hgrow.frozen_far ⟨M, 1, none⟩ Z3.out (Ne.symm av)).trans Z5.out))
        all_goals
          go_wp2
          go_roundw
          case rel => exact ⟨j + 1, _, by omega, by go_num, HF.out.step rfl hown1 hgrow av hMW⟩
          case measure => simp [intOf]; omega
      · obtain rfl : j = n := by omega
        go_wp2
        go_ret2
        obtain ⟨k, cap, sp, hk, hmod⟩ := mod_of_own (.inl rfl) hn1 (by omega) (by omega) hF.head hF.own
        have hsz := HSZ.out
        have hMM := HMM.out
        have hBB := HBB.out
        exact ⟨s, g, M, k, cap, sp, rfl, by omega, by omega, by omega, by omega, ⟨hsky'.only hF.only (by simp; omega) (by simp; omega), hmod, by omega, by omega, by omega⟩, ((ho'.more (by simp)).trans hF.only).less fun i hi hl => by simp at hi; omega⟩
  · go_enter Try.func20, Try.ntmps20
    go_wp2_with (go_at_call 14; refine (new_ok (-1) n hh (.inr rfl) hn1 (by omega) (by omega) _).mono ?_; rintro e w1 ⟨s, g, rfl, hs, hg, hsky, ho⟩; have hbox1 := hbox.only ho (by simp); have x2 := hbox1.cell 2; simp at x2)
    have hM := Blk.new w1 61 [.int .i64 (-1), .slice none 0 0]
    have y2 : (w1.alloc (.cells #[Value.int .i64 (-1), .slice none 0 0] 61)).cell? ⟨w.heap.size, 2, none⟩ = some (.int .i16 hh) := (hbox1.alloc _).cell 2
    have hsky' := hsky.alloc (.cells #[Value.int .i64 (-1), .slice none 0 0] 61)
    have hlt1 : w.heap.size < w1.heap.size := hbox1.lt
    have ho' : Only [] w (w1.alloc (.cells #[Value.int .i64 (-1), .slice none 0 0] 61)) := (((Only.refl [] w).alloc _).trans ho).alloc _
    have hsz : (w1.alloc (.cells #[Value.int .i64 (-1), .slice none 0 0] 61)).heap.size = w1.heap.size + 1 := by simp
    simp at hs hg
    have hs2 := hsky.head.lt
    have hg2 := hsky.row.lt
    clear hbox hbox1 ho hsky x2
    generalize w1.alloc (.cells #[Value.int .i64 (-1), .slice none 0 0] 61) = W at *
    generalize hMM : w1.heap.size = M at *
    generalize hBB : w.heap.size = B at *
    have HSZ := Lib.hid hsz
    have HMM := Lib.hid hMM
    have HBB := Lib.hid hBB
    clear hsz hMM hBB
    have hne : M ≠ B := by omega
    have hBW : B < W.heap.size := by have := HSZ.out; omega
    have hMW : M < W.heap.size := by have := HSZ.out; omega
    go_loopw [9] (fun i wr => ∃ (j : Nat) (v : Value), j ≤ n ∧ i = .int .i64 j ∧ Filling W wr M W.heap.size j (-1) hh v) (fun i _ => n - (intOf i).toNat)
    case atStart => exact ⟨0, _, Nat.zero_le _, rfl, hM, World.ownsRow_nil _ _ _ _, Only.refl _ _⟩
    case round =>
      obtain ⟨j, v, hj, rfl, hF⟩ := hrel
      have HF := Lib.hid hF
      clear hM
      by_cases hlt : j < n
      · have q1 : wr.cell? ⟨M, 1, none⟩ = some v := hF.head.cell 1
        have q2 : wr.cell? ⟨B, 2, none⟩ = some (.int .i16 hh) := (hF.only.cell (p := ⟨B, 2, none⟩) hBW (by simpa using hne.symm)).trans y2
        have hown := hF.own
        have hsw := hF.only.size
        have f1 : wr.frozen? ⟨M, 1, none⟩ = false := hF.head.frozen 1
        have n1 := World.new_ne wr _ q1
        have n2 := World.new_ne wr _ q2
        have ww : IntKind.i64.wrap hh = hh := IntWalk.i64_in _ (by omega)
        have av : v.ownBlock ≠ some M := fun e => by have := (hown.lt M e).1; omega
        have avb : v.ownBlock ≠ some B := fun e => by have := (hown.lt B e).1; omega
        have Z1 := Lib.hid (show (wr.alloc (.cells #[Value.int .i64 hh] 3)).drew.cell? ⟨M, 1, none⟩ = some v from (World.cell?_alloc_lt wr _ ⟨M, 1, none⟩ (Nat.lt_of_lt_of_le hMW hsw)).trans q1)
        have Z2 := Lib.hid (show (wr.alloc (.cells #[Value.int .i64 hh] 3)).drew.cell? ⟨B, 2, none⟩ = some (.int .i16 hh) from (World.cell?_alloc_lt wr _ ⟨B, 2, none⟩ (Nat.lt_of_lt_of_le hBW hsw)).trans q2)
        have Z3 := Lib.hid (show M < (wr.alloc (.cells #[Value.int .i64 hh] 3)).drew.heap.size by simp; omega)
        have Z4 := Lib.hid (show B < (wr.alloc (.cells #[Value.int .i64 hh] 3)).drew.heap.size by simp; omega)
        have Z5 := Lib.hid (show (wr.alloc (.cells #[Value.int .i64 hh] 3)).drew.frozen? ⟨M, 1, none⟩ = false from (World.frozen?_alloc_old wr _ ⟨M, 1, none⟩ (Nat.ne_of_lt (Nat.lt_of_lt_of_le hMW hsw))).trans f1)
        have z1 : (wr.alloc (.cells #[Value.int .i64 hh] 3)).cell? ⟨M, 1, none⟩ = some v := Z1.out
        have z2 : (wr.alloc (.cells #[Value.int .i64 hh] 3)).cell? ⟨B, 2, none⟩ = some (.int .i16 hh) := Z2.out
        clear hF y2
        go_wp2
        go_region_law
          ((refine step_append_lies _ (by rfl) _ _ _ (by rfl) W.heap.size 3 i0 _ 1 8 Try.underlying59 hi0 hz0 hz1 hz2 rfl (by omega) v j (List.replicate j (.int .i64 hh)) (by rfl) ((hown.alloc _).drew)
              ⟨wr.heap.size, 0, none⟩ 1 1 [.int .i64 hh] (by rfl) (by rfl) (World.news_of_block (cs := #[.int .i64 hh]) (t := 3) (fr := (0, 0)) (heap_alloc_new wr _)) (by simp [Value.oneCell'])
              (by omega) (by simp only [maxLen]; omega) (by omega) (by simp; omega) (wr.heap.size + 1) (by simp) ?_; intro gg cap w2 hown1 hgrow hat hlt2; have s1 := (hgrow.cell_far ⟨M, 1, none⟩ Z3.out (Ne.symm av)).trans Z1.out; have s2 := (hgrow.frozen_far ⟨M, 1, none⟩ Z3.out (Ne.symm av)).trans Z5.out))
        all_goals
          go_wp2
          go_roundw
          case rel => exact ⟨j + 1, _, by omega, by go_num, HF.out.step rfl hown1 hgrow av hMW⟩
          case measure => simp [intOf]; omega
      · obtain rfl : j = n := by omega
        go_wp2
        go_ret2
        obtain ⟨k, cap, sp, hk, hmod⟩ := mod_of_own (.inr rfl) hn1 (by omega) (by omega) hF.head hF.own
        have hsz := HSZ.out
        have hMM := HMM.out
        have hBB := HBB.out
        exact ⟨s, g, M, k, cap, sp, rfl, by omega, by omega, by omega, by omega, ⟨hsky'.only hF.only (by simp; omega) (by simp; omega), hmod, by omega, by omega, by omega⟩, ((ho'.more (by simp)).trans hF.only).less fun i hi hl => by simp at hi; omega⟩

end Go.Proofs.Ytblcgfmgfepajaa
