/- DERIVED. Contracts: slices.Clone, slices.Equal of ints; Clone, Equal of skylines. -/
import Derived.Test.YtblcgfmgfepajaaGkyA
import Derived.Deep.AppendLies
import Derived.WalkSpells
import Derived.Deep.RegionHeld3
import Derived.Deep.DrawnRows
namespace Go.Proofs.Ytblcgfmgfepajaa
open Go.RowKit
attribute [local go_sem ↓] Go.wp_at_zero Go.wp_at_succ

/-- A copy of a row has been returned. -/
def Cloned (w : World) (zs : List Int) (e : Ending) (w' : World) : Prop :=
  ∃ k cap sp, e = .returned (.slice (some ⟨k, 0, none⟩) zs.length cap) ∧ w.heap.size ≤ k ∧ zs.length ≤ cap ∧ Blk w' k 3 (zs.map (.int .i64) ++ sp) ∧ Only [] w w'

theorem cloned_of {w w' : World} {zs : List Int} {k cap : Nat} (ho : w'.ownsRow w.heap.size 3 1 (.slice (some ⟨k, 0, none⟩) zs.length cap) zs.length (zs.map (.int .i64))) (hX : Only [] w w') :
    Cloned w zs (.returned (.slice (some ⟨k, 0, none⟩) zs.length cap)) w' := by
  rcases ho.2 with ⟨h, _⟩ | ⟨k', cap', cur, he, hb, hg, hn, hm, hz, ht⟩
  · cases h
  · simp only [Value.slice.injEq, Option.some.injEq, Addr.mk.injEq, and_true, true_and] at he
    obtain ⟨rfl, rfl⟩ := he
    refine ⟨k, cap, cur.toList.drop zs.length, rfl, hb, hn, ?_, hX⟩
    unfold Blk
    have e : cur = (zs.map (Value.int .i64) ++ cur.toList.drop zs.length).toArray := by
      rw [Nat.mul_one] at ht
      rw [← ht, List.take_append_drop]
    rw [hg]
    exact congrArg (fun c => some (Obj.cells c _ (0, 0))) e

set_option maxHeartbeats 1000000 in
theorem sclone_any {w : World} (g c : Nat) (zs : List Int) (h0 : 0 < zs.length) (hb : zs.length ≤ 65536)
    (hc : ∀ i (hi : i < zs.length), w.cell? ⟨g, i, none⟩ = some (.int .i64 zs[i])) :
    Calls Try.prog 43 #[.slice (some ⟨g, 0, none⟩) zs.length c] w fun e w' => Cloned w zs e w' := by
  obtain ⟨i0, hi0, hz0, hz1, hz2⟩ := info_parts int_info
  have hnil := Lib.run_eql_slice_nil (P := Try.prog) w 59 3 (some ⟨g, 0, none⟩) zs.length c 0 0 Try.underlying59
  go_enter Try.func43, Try.ntmps43
  have hown : (w.alloc (.cells #[] 3)).ownsRow w.heap.size 3 1 (.slice (some ⟨w.heap.size, 0, none⟩) 0 0) 0 [] :=
    ⟨rfl, .inr ⟨w.heap.size, 0, #[], rfl, Nat.le_refl _, heap_alloc_new w _, Nat.le_refl _, Nat.zero_le _, rfl, rfl⟩⟩
  have hnews : ∀ j u, (zs.map (Value.int .i64))[j]? = some u → (w.alloc (.cells #[] 3)).cell? ((⟨g, 0, none⟩ : Addr).add j) = some u := by
    intro j u hj
    obtain ⟨hlt, he⟩ := List.getElem?_eq_some_iff.1 hj
    simp at hlt he
    have hcj := hc j hlt
    rw [Addr.add_lit, Nat.zero_add, World.cell?_alloc_lt w _ _ (World.block_lt_of_cell? w ⟨g, j, none⟩ hcj), hcj, he]
  go_wp2_with (at_builtin; refine wpList_append_lies _ rfl _ _ _ rfl w.heap.size 3 i0 _ 1 8 Try.underlying59 hi0 hz0 hz1 hz2 rfl (by omega) _ 0 [] rfl hown ⟨g, 0, none⟩ zs.length c (zs.map (Value.int .i64)) rfl (by simp) hnews (by intro u hu; obtain ⟨x, _, rfl⟩ := List.mem_map.1 hu; rfl) h0 (by simp only [maxLen]; omega) (by omega) (by simp) (w.heap.size + 1) (by simp) ?_; intro k cap w2 hown1 hgrow hat hlt2)
  go_ret
  refine cloned_of (by simpa using hown1) ?_
  exact ((Only.refl [] w).alloc _).grown hgrow fun j hj => .inr (by have := Option.some.inj hj; simp only at this; omega)

/-- A clone of a skyline has been returned. -/
def ClonedSky (w : World) (side : Int) (h : List Int) (e : Ending) (w' : World) : Prop :=
  ∃ s g cap sp, e = .returned (.pointer (some ⟨s, 0, none⟩)) ∧ w.heap.size ≤ s ∧ w.heap.size ≤ g ∧ Gky w' s g cap sp side h ∧ Only [] w w'

theorem clonedSky_of {w w1 : World} {side : Int} {h : List Int} {s g cap : Nat} {sp : List Value} {sd g' cap' : Nat} {sp' : List Value} (hs : Gky w s g cap sp side h) (hw : w.heap.size ≤ g') (hc : h.length ≤ cap') (hb : Blk w1 g' 3 (h.map (.int .i64) ++ sp')) (ho : Only [] w w1) (he : sd = w1.heap.size) :
    ClonedSky w side h (.returned (.pointer (some ⟨sd, 0, none⟩))) (w1.alloc (.cells #[.int .i64 side, .slice (some ⟨g', 0, none⟩) h.length cap'] 75)) := by
  subst he
  exact ⟨_, g', cap', sp', rfl, ho.size, hw, ⟨Blk.new w1 _ [.int .i64 side, .slice (some ⟨g', 0, none⟩) h.length cap'], hb.alloc _, hc, hs.sides, hs.pos, hs.few, hs.low⟩, ho.alloc _⟩

set_option maxHeartbeats 1000000 in
theorem Clone_any {w : World} {s g cap : Nat} {sp : List Value} {side : Int} {h : List Int} (hs : Gky w s g cap sp side h) :
    Calls Try.prog 32 #[.pointer (some ⟨s, 0, none⟩)] w fun e w' => ClonedSky w side h e w' := by
  have hc0 := hs.side0
  have hc1 := hs.out0
  have HS := Lib.hid hs
  have ls := hs.head.lt
  clear hs
  go_enter Try.func32, Try.ntmps32
  go_wp2
  go_region_held3 (fun w' => w'.cell? ⟨s, 0, none⟩ = some (.int .i64 side) ∧ w'.cell? ⟨s, 1, none⟩ = some (.slice (some ⟨g, 0, none⟩) h.length cap)) (first | exact ⟨hc0, hc1⟩ | exact ⟨x0, x1⟩ | exact ⟨(World.cell?_alloc_lt w1 _ ⟨s, 0, none⟩ l1).trans x0, (World.cell?_alloc_lt w1 _ ⟨s, 1, none⟩ l1).trans x1⟩) (first | (go_at_call 43; refine (sclone_any g cap h HS.out.pos HS.out.few (fun i hi => HS.out.drew.at_ i hi)).mono ?_; rintro e w1 ⟨k, cap', sp', rfl, hk, hc', hb, ho1⟩; have x0 := (ho1.cell (p := ⟨s, 0, none⟩) ls (by simp)).trans hc0; have x1 := (ho1.cell (p := ⟨s, 1, none⟩) ls (by simp)).trans hc1; have l1 : s < w1.heap.size := Nat.lt_of_lt_of_le ls ho1.size))
  go_wp2
  go_ret
  exact clonedSky_of HS.out hk hc' hb ((Only.refl [] w).drew.trans ho1) rfl

set_option maxHeartbeats 1000000 in
theorem sequal_any {w : World} (g g' c c' : Nat) (zs zs' : List Int) (hb : zs.length ≤ 65536)
    (hc : ∀ i (hi : i < zs.length), w.cell? ⟨g, i, none⟩ = some (.int .i64 zs[i])) (hc' : ∀ i (hi : i < zs'.length), w.cell? ⟨g', i, none⟩ = some (.int .i64 zs'[i])) :
    Calls Try.prog 44 #[.slice (some ⟨g, 0, none⟩) zs.length c, .slice (some ⟨g', 0, none⟩) zs'.length c'] w
      fun e w' => e = .returned (.bool (decide (zs = zs'))) ∧ ∃ n, w' = w.drewN n := by
  by_cases hl : zs.length = zs'.length
  · have b1 : ((zs.length : Int) != (zs'.length : Int)) = false := by simp; omega
    go_enter Try.func44, Try.ntmps44
    go_wp2
    go_loopw [13] (fun i wr => ∃ j n : Nat, j ≤ zs.length ∧ i = .int .i64 j ∧ wr = w.drewN n ∧ (∀ q (h1 : q < zs.length) (h2 : q < zs'.length), q < j → zs[q] = zs'[q])) (fun i _ => zs.length - (intOf i).toNat)
    case atStart => exact ⟨0, 0, Nat.zero_le _, rfl, rfl, fun q _ _ hq => absurd hq (by omega)⟩
    case round =>
      obtain ⟨j, n, hj, rfl, rfl, hsame⟩ := hrel
      have HSA := Lib.hid hsame
      clear hsame
      by_cases hlt : j < zs.length
      · have hlt' : j < zs'.length := by omega
        have p0 := hc j hlt
        have p1 := hc' j hlt'
        have j0 : (0 : Int) ≤ (j : Int) := by omega
        have j1 : (j : Int) < (zs.length : Int) := by omega
        have j2 : (j : Int) < (zs'.length : Int) := by omega
        by_cases he : zs[j] = zs'[j]
        · have HE := Lib.hid he
          have b2 : (zs[j] != zs'[j]) = false := by simpa using he
          clear he
          go_wp2
          go_quiet (fail)
          go_wp2
          go_roundw
          case rel =>
            refine ⟨j + 1, _, by omega, by go_num, rfl, fun q h1 h2 hq => ?_⟩
            by_cases e : q = j
            · subst e; exact HE.out
            · exact HSA.out q h1 h2 (by omega)
          case measure => simp [intOf]; omega
        · have HE := Lib.hid he
          have b2 : (zs[j] != zs'[j]) = true := by simpa using he
          clear he
          go_wp2
          go_quiet (fail)
          go_wp2
          go_ret
          refine ⟨ret_bool ?_, n + nq, by simp⟩
          symm
          simp only [decide_eq_false_iff_not]
          intro e
          subst e
          exact HE.out rfl
      · obtain rfl : j = zs.length := by omega
        go_wp2
        go_ret
        refine ⟨ret_bool ?_, _, rfl⟩
        symm
        simp only [decide_eq_true_eq]
        exact List.ext_getElem hl fun q h1 h2 => HSA.out q h1 h2 h1
  · have b1 : ((zs.length : Int) != (zs'.length : Int)) = true := by simp; omega
    go_enter Try.func44, Try.ntmps44
    go_wp2
    go_ret
    refine ⟨ret_bool ?_, 0, rfl⟩
    symm
    simp only [decide_eq_false_iff_not]
    intro e
    subst e
    exact hl rfl

/-- What Equal gives. -/
def eqB (side side' : Int) (h h' : List Int) : Bool := decide (side = side' ∧ h = h')

set_option maxHeartbeats 1000000 in
theorem Equal_any {w : World} {s g cap s' g' cap' : Nat} {sp sp' : List Value} {side side' : Int} {h h' : List Int} (hs : Gky w s g cap sp side h) (hs' : Gky w s' g' cap' sp' side' h') :
    Calls Try.prog 35 #[.pointer (some ⟨s, 0, none⟩), .pointer (some ⟨s', 0, none⟩)] w
      fun e w' => e = .returned (.bool (eqB side side' h h')) ∧ ∃ n, w' = w.drewN n := by
  have hc0 := hs.side0
  have hc1 := hs.out0
  have hd0 := hs'.side0
  have hd1 := hs'.out0
  by_cases he : side = side'
  · have b1 : (side == side') = true := by simpa using he
    have HE := Lib.hid he
    clear he
    go_enter Try.func35, Try.ntmps35
    go_wp2
    go_quiet ((go_at_call 44; exact Calls.quiet_of (sequal_any g g' cap cap' h h' hs.few (hs.drewN _).at_ (hs'.drewN _).at_)))
    go_wp2
    go_ret
    refine ⟨ret_bool ?_, _, rfl⟩
    have := HE.out
    simp [eqB, this]
  · have b1 : (side == side') = false := by simpa using he
    have HE := Lib.hid he
    clear he
    go_enter Try.func35, Try.ntmps35
    go_wp2
    go_quiet (fail)
    go_wp2
    go_ret
    refine ⟨ret_bool ?_, _, rfl⟩
    have := HE.out
    simp [eqB, this]
end Go.Proofs.Ytblcgfmgfepajaa
