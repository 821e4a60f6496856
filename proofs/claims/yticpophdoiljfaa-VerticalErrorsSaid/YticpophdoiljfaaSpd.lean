/- DERIVED. Vertical: Spread's walk. -/
import Derived.Test.YticpophdoiljfaaSpr
import Derived.StillTailTactics
import Derived.Deep.RegionHeld3
namespace Go.Proofs.Yticpophdoiljfaa
open Go.RowKit
attribute [local go_sem ↓] Go.wp_at_zero Go.wp_at_succ

/-- A copy of a row has been returned. -/
def Cloned (w : World) (zs : List Int) (e : Ending) (w' : World) : Prop :=
  ∃ k cap sp, e = .returned (.slice (some ⟨k, 0, none⟩) zs.length cap) ∧ w.heap.size ≤ k ∧ zs.length ≤ cap ∧ Blk w' k 3 (zs.map (.int .i64) ++ sp) ∧ Only [] w w'
theorem cloned_of {w w' : World} {zs : List Int} {k cap : Nat} (ho : w'.ownsRow w.heap.size 3 1 (.slice (some ⟨k, 0, none⟩) zs.length cap) zs.length (zs.map (.int .i64))) (hX : Only [] w w') :
    Cloned w zs (.returned (.slice (some ⟨k, 0, none⟩) zs.length cap)) w' := by
  rcases ho.2 with ⟨h, _⟩ | ⟨k', cap', cur, he, hb, hg, hn, hm, hz, ht⟩
  · cases h
  · simp only [Value.slice.injEq, Option.some.injEq, Addr.mk.injEq, and_true, true_and] at he
    obtain ⟨rfl, rfl⟩ := he
    refine ⟨k, cap, cur.toList.drop zs.length, rfl, hb, hn, ?_, hX⟩
    unfold Blk
    have e : cur = (zs.map (Value.int .i64) ++ cur.toList.drop zs.length).toArray := by
      rw [Nat.mul_one] at ht
      rw [← ht, List.take_append_drop]
    rw [hg]
    exact congrArg (fun c => some (Obj.cells c _ (0, 0))) e

set_option maxRecDepth 20000 in
set_option maxHeartbeats 1000000 in
theorem sclone_gen {w : World} (bA off c : Nat) (zs : List Int) (h0 : 0 < zs.length) (hb : zs.length ≤ 65536)
    (hc : ∀ i (hi : i < zs.length), w.cell? ⟨bA, off + i, none⟩ = some (.int .i64 zs[i])) :
    Calls Try.prog 50 #[.slice (some ⟨bA, off, none⟩) zs.length c] w fun e w' => Cloned w zs e w' := by
  obtain ⟨i0, hi0, hz0, hz1, hz2⟩ := info_parts int_info
  have hnil := Lib.run_eql_slice_nil (P := Try.prog) w 22 3 (some ⟨bA, off, none⟩) zs.length c 0 0 Try.underlying22
  go_enter Try.func50, Try.ntmps50
  have hown : (w.alloc (.cells #[] 3)).ownsRow w.heap.size 3 1 (.slice (some ⟨w.heap.size, 0, none⟩) 0 0) 0 [] :=
    ⟨rfl, .inr ⟨w.heap.size, 0, #[], rfl, Nat.le_refl _, heap_alloc_new w _, Nat.le_refl _, Nat.zero_le _, rfl, rfl⟩⟩
  have hnews : ∀ j u, (zs.map (Value.int .i64))[j]? = some u → (w.alloc (.cells #[] 3)).cell? ((⟨bA, off, none⟩ : Addr).add j) = some u := by
    intro j u hj
    obtain ⟨hlt, he⟩ := List.getElem?_eq_some_iff.1 hj
    simp at hlt he
    have hcj := hc j hlt
    rw [Addr.add_lit, World.cell?_alloc_lt w _ _ (World.block_lt_of_cell? w ⟨bA, off + j, none⟩ hcj), hcj, he]
  go_wp2_with (at_builtin; refine wpList_append_lies _ rfl _ _ _ rfl w.heap.size 3 i0 _ 1 8 Try.underlying22 hi0 hz0 hz1 hz2 rfl (by omega) _ 0 [] rfl hown ⟨bA, off, none⟩ zs.length c (zs.map (Value.int .i64)) rfl (by simp) hnews (by intro u hu; obtain ⟨x, _, rfl⟩ := List.mem_map.1 hu; rfl) h0 (by simp only [maxLen]; omega) (by omega) (by simp) (w.heap.size + 1) (by simp) ?_; intro k cap w2 hown1 hgrow hat hlt2)
  go_ret
  refine cloned_of (by simpa using hown1) ?_
  exact ((Only.refl [] w).alloc _).grown hgrow fun j hj => .inr (by have := Option.some.inj hj; simp only at this; omega)

/-- The three blocks that Spread makes at once. -/
theorem three_boxes (w : World) (A A' : Option Addr) (n n' c c' : Nat) (t b : Int) :
    Blk (((w.alloc (sysBox A n c t b)).alloc (.cells #[.slice A' n' c'] 22)).alloc (.cells #[.slice none 0 0, .int .i64 0, .int .i64 0] 24)) w.heap.size 24 [.slice A n c, .int .i64 t, .int .i64 b] ∧
    Blk (((w.alloc (sysBox A n c t b)).alloc (.cells #[.slice A' n' c'] 22)).alloc (.cells #[.slice none 0 0, .int .i64 0, .int .i64 0] 24)) (w.heap.size + 1) 22 [.slice A' n' c'] ∧
    Blk (((w.alloc (sysBox A n c t b)).alloc (.cells #[.slice A' n' c'] 22)).alloc (.cells #[.slice none 0 0, .int .i64 0, .int .i64 0] 24)) (w.heap.size + 1 + 1) 24 [.slice none 0 0, .int .i64 0, .int .i64 0] := by
  refine ⟨((Blk.new w _ _).alloc _).alloc _, ?_, ?_⟩
  · have := (Blk.new (w.alloc (sysBox A n c t b)) 22 [.slice A' n' c']).alloc (.cells #[.slice none 0 0, .int .i64 0, .int .i64 0] 24)
    rw [World.size_alloc] at this
    exact this
  · have := Blk.new ((w.alloc (sysBox A n c t b)).alloc (.cells #[.slice A' n' c'] 22)) 24 [.slice none 0 0, .int .i64 0, .int .i64 0]
    rw [World.size_alloc, World.size_alloc] at this
    exact this

set_option maxRecDepth 20000 in
set_option maxHeartbeats 2000000 in
theorem spread_bad {w : World} {A A' : Option Addr} {ms ps : List Int} (c c' : Nat) (t b extra : Int) (hI : IntsAt w A ms) (hl : ms.length ≤ 8) (hP : IntsAt w A' ps) (hpl : ps.length ≤ 8) (he : partsE ms ps t b ≠ 0) :
    Calls Try.prog 29 #[sysV A ms.length c t b, .slice A' ps.length c', .int .i64 extra] w
      fun e w' => e = .returned (.tuple #[sysV none 0 0 0 0, .int .i64 (partsE ms ps t b)]) ∧ Only [] w w' := by
  have X := Lib.hid ((((Only.refl [] w).alloc (sysBox A ms.length c t b)).alloc (.cells #[.slice A' ps.length c'] 22)).alloc (.cells #[.slice none 0 0, .int .i64 0, .int .i64 0] 24))
  have BB := Lib.hid (three_boxes w A A' ms.length ps.length c c' t b)
  have HI := Lib.hid (hI.only X.out (by simp))
  have HP := Lib.hid (hP.only X.out (by simp))
  obtain ⟨ev, hev⟩ : ∃ ev, partsE ms ps t b = ev := ⟨_, rfl⟩
  have HE := Lib.hid hev
  rw [hev] at he ⊢
  have e1 : (ev != 0) = true := by simpa using he
  clear hI hP hev he
  go_enter Try.func29, Try.ntmps29
  go_wp2_with (go_at_call 47; refine (vparts_any c c' t b HI.out hl HP.out hpl).mono ?_; rintro e w1 ⟨rfl, o1⟩; rw [HE.out]; have b1 := BB.out.2.2.only o1 (by simp); have b10 := b1.cell 0; have b11 := b1.cell 1; have b12 := b1.cell 2; have f10 := b1.frozen 0; have f11 := b1.frozen 1; have f12 := b1.frozen 2; simp at b10 b11 b12)
  have b2 := ((b1.set_ 0 (.slice none 0 0)).set_ 1 (.int .i64 0)).set_ 2 (.int .i64 0)
  have c0 := b2.cell 0
  have c1 := b2.cell 1
  have c2 := b2.cell 2
  simp at c0 c1 c2
  refine bodyPost_ret (v := .tuple #[sysV none 0 0 0 0, .int .i64 ev]) (by simp [results, Try.results29, go_sem, c0, c1, c2]) rfl ⟨rfl, ?_⟩
  refine ((((X.out.trans o1).more (T := [w.heap.size + 1 + 1]) (by simp)).setCell (p := ⟨w.heap.size + 1 + 1, 0, none⟩) (.inl (by simp)) _).setCell (p := ⟨w.heap.size + 1 + 1, 1, none⟩) (.inl (by simp)) _).setCell (p := ⟨w.heap.size + 1 + 1, 2, none⟩) (.inl (by simp)) _ |>.less fun q hq hlq => ?_
  simp at hq
  omega
end Go.Proofs.Yticpophdoiljfaa
