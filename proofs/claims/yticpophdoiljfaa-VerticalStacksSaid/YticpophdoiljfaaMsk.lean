/- DERIVED. Vertical: the statements' stack. -/
import Derived.Test.YticpophdoiljfaaMst
import Derived.Test.YticpophdoiljfaaMsp
import Derived.Test.YticpophdoiljfaaQt
namespace Go.Proofs.Yticpophdoiljfaa
open Go.RowKit
attribute [local go_sem ↓] Go.wp_at_zero Go.wp_at_succ

/-- The extents, c columns of a staff told. -/
def topC (s m : Int) (h : List Int) : Nat → Int
  | 0 => s
  | c + 1 => max (topC s m h c) (m + h.getD c 0)
def botC (s m : Int) (h : List Int) : Nat → Int
  | 0 => s
  | c + 1 => min (botC s m h c) (m + -h.getD c 0)
theorem topC_le (s m : Int) (h : List Int) : ∀ k, s ≤ topC s m h k ∧ (∀ c, c < k → m + h.getD c 0 ≤ topC s m h k) ∧ (topC s m h k = s ∨ ∃ c, c < k ∧ m + h.getD c 0 = topC s m h k)
  | 0 => ⟨Int.le_refl _, fun c hc => absurd hc (by omega), .inl rfl⟩
  | k + 1 => by
    obtain ⟨h1, h2, h3⟩ := topC_le s m h k
    rw [topC]
    refine ⟨by omega, fun c hc => ?_, ?_⟩
    · by_cases e : c = k
      · subst e; omega
      · have := h2 c (by omega)
        omega
    · by_cases e : topC s m h k < m + h.getD k 0
      · exact .inr ⟨k, by omega, by omega⟩
      · rcases h3 with h | ⟨c, hc, h⟩
        · exact .inl (by omega)
        · exact .inr ⟨c, by omega, by omega⟩
theorem botC_top (s m : Int) (h : List Int) : ∀ k, botC s m h k = - topC (-s) (-m) h k
  | 0 => by simp [botC, topC]
  | k + 1 => by
    rw [botC, topC, botC_top s m h k]
    omega
theorem topC_eq (s m : Int) {h : List Int} {n : Nat} (hn : h.length = n) (h1 : 1 ≤ n) : topC s m h n = max s (m + maxL h) := by
  obtain ⟨a1, a2, a3⟩ := topC_le s m h n
  have hM := maxL_mem (l := h) (by omega)
  have g1 : m + maxL h ≤ topC s m h n := by
    obtain ⟨i, hi, e⟩ := List.mem_iff_getElem.1 hM
    have := a2 i (by omega)
    rw [getD_get hi] at this
    omega
  rcases a3 with e | ⟨c, hc, e⟩
  · omega
  · have := maxL_ge (l := h) (x := h[c]'(by omega)) (List.getElem_mem _)
    rw [getD_get (show c < h.length by omega)] at e
    omega
theorem botC_eq (s m : Int) {h : List Int} {n : Nat} (hn : h.length = n) (h1 : 1 ≤ n) : botC s m h n = min s (m - maxL h) := by
  rw [botC_top, topC_eq _ _ hn h1]
  omega
theorem topC_rng {s m : Int} {h : List Int} (hh : ∀ x ∈ h, 0 ≤ x ∧ x ≤ 8128) (k : Nat) (hk : k ≤ h.length) : s ≤ topC s m h k ∧ topC s m h k ≤ max s (m + 8128) := by
  obtain ⟨a1, a2, a3⟩ := topC_le s m h k
  refine ⟨a1, ?_⟩
  rcases a3 with e | ⟨c, hc, e⟩
  · omega
  · have := hh (h[c]'(by omega)) (List.getElem_mem _)
    rw [getD_get (show c < h.length by omega)] at e
    omega

theorem topTo_step (L : List SV) (gap least : Int) (i : Nat) : topTo L gap least (i + 1) = max (topTo L gap least i) (max (midTo L gap least i) (midTo L gap least i + maxL (L.getD i ⟨[], [], 0⟩).ha)) := rfl
theorem botTo_step (L : List SV) (gap least : Int) (i : Nat) : botTo L gap least (i + 1) = min (botTo L gap least i) (min (midTo L gap least i) (midTo L gap least i - maxL (L.getD i ⟨[], [], 0⟩).hb)) := rfl
/-- The model's system when j staves are told. -/
structure MStk (w1 wr : World) (S : Nat) (L : List SV) (gap least : Int) (j : Nat) (v : Value) : Prop where
  blk : Blk wr S 24 [v, .int .i64 (topTo L gap least j), .int .i64 (botTo L gap least j)]
  own : wr.ownsRow w1.heap.size 3 1 v j (((List.range j).map (midTo L gap least)).map (.int .i64))
  only : Only [S] w1 wr

/-- What the statements' stack gives. -/
def MStacked (w : World) (L : List SV) (gap least : Int) (e : Ending) (w' : World) : Prop :=
  ∃ A c, e = .returned (sysV A L.length c (topTo L gap least L.length) (botTo L gap least L.length)) ∧ IntsAt w' A (mids L gap least) ∧ Only [] w w'

set_option maxRecDepth 20000 in
set_option maxHeartbeats 8000000 in
theorem mstack_any {w : World} {k n : Nat} {l : List StaffR} (cap : Nat) (h : Stv w k l n) (gap least : Int) (g0 : 0 ≤ gap) (g1 : gap ≤ 65536) (l0 : 1 ≤ least) (l1 : least ≤ 65536) :
    Calls Try.prog 23 #[.slice (some ⟨k, 0, none⟩) l.length cap, .int .i64 gap, .int .i64 least] w fun e w' => MStacked w (l.map StaffR.v) gap least e w' := by
  obtain ⟨i0, hi0, hz0, hz1, hz2⟩ := info_parts int_info
  have hp := h.pos
  have hf := h.few
  have hn := h.npos
  have hn8 := h.nfew
  have H := Lib.hid h
  have RM := Lib.hid (mid_range h g0 g1 l0 l1)
  have X0 := Lib.hid ((Only.refl [] w).alloc (.cells #[.slice none 0 0, .int .i64 0, .int .i64 0] 24))
  have RB := Lib.hid (Blk.new w 24 [.slice none 0 0, .int .i64 0, .int .i64 0])
  have BS := Lib.hid (Blk.new (w.alloc (.cells #[.slice none 0 0, .int .i64 0, .int .i64 0] 24)) 24 [.slice none 0 0, .int .i64 0, .int .i64 0])
  obtain ⟨R, hR⟩ : ∃ R, w.heap.size = R := ⟨_, rfl⟩
  have HR := Lib.hid hR
  rw [show (w.alloc (.cells #[.slice none 0 0, .int .i64 0, .int .i64 0] 24)).heap.size = R + 1 by rw [← hR]; simp] at BS
  rw [hR] at RB
  have H0 := Lib.hid (H.out.newer X0.out (by simp))
  obtain ⟨r0, hr0⟩ : ∃ r, l[0] = r := ⟨_, rfl⟩
  have C0 := Lib.hid (ncols_is (H0.out.ok 0 hp).above (H0.out.ok 0 hp).la)
  have D0 : (w.alloc (.cells #[.slice none 0 0, .int .i64 0, .int .i64 0] 24)).cell? ⟨k, 0, none⟩ = some (.pointer (some ⟨(l[0]).sa, 0, none⟩)) := by simpa using H0.out.cell 0 hp 0 _ rfl
  have D1 : w.cell? ⟨k, 0, none⟩ = some (.pointer (some ⟨(l[0]).sa, 0, none⟩)) := by simpa using H.out.cell 0 hp 0 _ rfl
  clear h hR hr0
  go_enter Try.func23, Try.ntmps23
  go_wp2_with (go_at_call 25; refine C0.out.mono ?_; rintro e w' ⟨rfl, rfl⟩)
  rw [HR.out]
  have X1 := Lib.hid (X0.out.alloc (.cells #[.slice none 0 0, .int .i64 0, .int .i64 0] 24))
  have RB1 := Lib.hid (RB.out.alloc (.cells #[.slice none 0 0, .int .i64 0, .int .i64 0] 24))
  clear D0 D1 C0 H0 X0 RB
  generalize (w.alloc (.cells #[.slice none 0 0, .int .i64 0, .int .i64 0] 24)).alloc (.cells #[.slice none 0 0, .int .i64 0, .int .i64 0] 24) = w1 at *
  have lS := BS.out.lt
  go_loopw [9, 10] (fun m i wr => ∃ (j : Nat) (v : Value), j ≤ l.length ∧ i = .int .i64 j ∧ m = .int .i64 (midTo (l.map StaffR.v) gap least (j - 1)) ∧ MStk w1 wr (R + 1) (l.map StaffR.v) gap least j v) (fun _ i _ => l.length - (intOf i).toNat)
  case atStart => exact ⟨0, _, by omega, rfl, rfl, BS.out, World.ownsRow_nil _ _ _ _, Only.refl _ _⟩
  case round =>
    obtain ⟨j, v, hj, rfl, rfl, hm⟩ := hrel
    by_cases hlt : j < l.length
    · have HS := Lib.hid (H.out.newer ((X1.out.more (T := [R + 1]) (by simp)).trans hm.only) (by intro q hq; have := HR.out; simp at hq; omega))
      have KS := Lib.hid (fun (W : World) (hW : Only [R + 1] wr W) => H.out.newer (((X1.out.more (T := [R + 1]) (by simp)).trans hm.only).trans hW) (by intro q hq; have := HR.out; simp at hq; omega))
      have XR := Lib.hid ((X1.out.more (T := [R + 1]) (by simp)).trans hm.only)
      have HM := Lib.hid hm
      obtain ⟨m, hmid⟩ : ∃ m, midTo (l.map StaffR.v) gap least j = m := ⟨_, rfl⟩
      have HMID := Lib.hid hmid
      have rm := RM.out j hlt
      rw [hmid] at rm
      have j0 : (0 : Int) ≤ (j : Int) := by omega
      have j1 : (j : Int) < (l.length : Int) := by omega
      clear hm hmid
      by_cases hj0 : 0 < j
      · obtain ⟨q, hq⟩ : ∃ q, j = q + 1 := ⟨j - 1, by omega⟩
        subst hq
        have rq := RM.out q (by omega)
        have ME : Hid (midTo (l.map StaffR.v) gap least (q + 1) = midTo (l.map StaffR.v) gap least q - distV l[q].v l[q + 1].v gap least) := Lib.hid (by rw [midTo, getD_map (show q < l.length by omega), getD_map hlt])
        have me := ME.out
        rw [HMID.out] at me
        rw [show q + 1 - 1 = q by omega]
        have DI := Lib.hid (fun (W : World) (hW : Only [R + 1] wr W) => distance_any ((KS.out W hW).pair q hlt) hn hn8 gap least g0 g1 l0 l1)
        have KC := Lib.hid (fun (W : World) (hW : Only [R + 1] wr W) => show W.cell? ⟨k, q * 3, none⟩ = some (.pointer (some ⟨l[q].sa, 0, none⟩)) ∧ W.cell? ⟨k, q * 3 + 1, none⟩ = some (.pointer (some ⟨l[q].sb, 0, none⟩)) ∧ W.cell? ⟨k, q * 3 + 2, none⟩ = some (.int .i64 l[q].v.part) ∧ W.cell? ⟨k, (q + 1) * 3, none⟩ = some (.pointer (some ⟨l[q + 1].sa, 0, none⟩)) ∧ W.cell? ⟨k, (q + 1) * 3 + 1, none⟩ = some (.pointer (some ⟨l[q + 1].sb, 0, none⟩)) ∧ W.cell? ⟨k, (q + 1) * 3 + 2, none⟩ = some (.int .i64 l[q + 1].v.part) from
          ⟨(KS.out W hW).cell q (by omega) 0 _ rfl, (KS.out W hW).cell q (by omega) 1 _ rfl, (KS.out W hW).cell q (by omega) 2 _ rfl, (KS.out W hW).cell (q + 1) hlt 0 _ rfl, (KS.out W hW).cell (q + 1) hlt 1 _ rfl, (KS.out W hW).cell (q + 1) hlt 2 _ rfl⟩)
        generalize midTo (l.map StaffR.v) gap least q = mq at *
        generalize distV l[q].v l[q + 1].v gap least = dq at *
        have y3 := KC.out wr (Only.refl [R + 1] wr)
        have h0 : (0 : Int) < ((q + 1 : Nat) : Int) := by omega
        have j2 : (((q + 1 : Nat) : Int) - 1) = (q : Int) := by omega
        have j3 : IntKind.i64.wrap ((q : Int)) = (q : Int) := IntWalk.i64_in _ (by omega)
        have j4 : (0 : Int) ≤ (q : Int) := by omega
        have j5 : (q : Int) < (l.length : Int) := by omega
        have j6 : (q : Int) + 1 < (l.length : Int) := by omega
        have j7 : (0 : Int) ≤ (q : Int) + 1 := by omega
        have wm : IntKind.i64.wrap (mq - dq) = mq - dq := IntWalk.i64_in _ (by omega)
        go_wp2
        go_region_held3 (fun W => W.cell? ⟨k, q * 3, none⟩ = some (.pointer (some ⟨l[q].sa, 0, none⟩)) ∧ W.cell? ⟨k, q * 3 + 1, none⟩ = some (.pointer (some ⟨l[q].sb, 0, none⟩)) ∧ W.cell? ⟨k, q * 3 + 2, none⟩ = some (.int .i64 l[q].v.part) ∧ W.cell? ⟨k, (q + 1) * 3, none⟩ = some (.pointer (some ⟨l[q + 1].sa, 0, none⟩)) ∧ W.cell? ⟨k, (q + 1) * 3 + 1, none⟩ = some (.pointer (some ⟨l[q + 1].sb, 0, none⟩)) ∧ W.cell? ⟨k, (q + 1) * 3 + 2, none⟩ = some (.int .i64 l[q + 1].v.part)) (first | exact KC.out _ (Only.refl [R + 1] wr) | exact KC.out _ (Only.refl [R + 1] wr).drew | exact KC.out _ p4) (first
          | (go_at_call 24; refine (DI.out _ (Only.refl [R + 1] wr).drew).mono ?_; rintro e w4 ⟨rfl, o4⟩; have p4 : Only [R + 1] wr w4 := (Only.refl [R + 1] wr).drew.trans (o4.more (by simp))))
        have p5 : Only [] wr w4 := (Only.refl [] wr).drew.trans o4
        rw [← me]
        clear me ME wm p4 o4 y3 DI KC
        have M4 := Lib.hid (show MStk w1 w4 (R + 1) (l.map StaffR.v) gap least (q + 1) v from ⟨HM.out.blk.only p5 (by simp), own_only HM.out.own p5 (by simp), HM.out.only.trans (p5.more (by simp))⟩)
        have HS4 := Lib.hid (HS.out.newer p5 (by simp))
        have TE : Hid (topTo (l.map StaffR.v) gap least (q + 1 + 1) = max (topTo (l.map StaffR.v) gap least (q + 1)) (max (midTo (l.map StaffR.v) gap least (q + 1)) (midTo (l.map StaffR.v) gap least (q + 1) + maxL (l[q + 1]).v.ha))) := Lib.hid (by have e := topTo_step (l.map StaffR.v) gap least (q + 1); rw [getD_map hlt] at e; exact e)
        have UE : Hid (botTo (l.map StaffR.v) gap least (q + 1 + 1) = min (botTo (l.map StaffR.v) gap least (q + 1)) (min (midTo (l.map StaffR.v) gap least (q + 1)) (midTo (l.map StaffR.v) gap least (q + 1) - maxL (l[q + 1]).v.hb))) := Lib.hid (by have e := botTo_step (l.map StaffR.v) gap least (q + 1); rw [getD_map hlt] at e; exact e)
        rw [HMID.out] at TE UE
        have bS := M4.out.blk
        have hown := M4.out.own
        have hsz := M4.out.only.size
        have av : v.ownBlock ≠ some (R + 1) := own_far hown bS (by decide)
        generalize topTo (l.map StaffR.v) gap least (q + 1) = Tj at *
        generalize botTo (l.map StaffR.v) gap least (q + 1) = Uj at *
        have c0 : w4.cell? ⟨R + 1, 0, none⟩ = some v := bS.cell 0
        obtain ⟨T1, hT1⟩ : ∃ T1, (if Tj < m then m else Tj) = T1 := ⟨_, rfl⟩
        obtain ⟨U1, hU1⟩ : ∃ U1, (if m < Uj then m else Uj) = U1 := ⟨_, rfl⟩
        clear HM p5
        go_wp2_with (at_builtin; refine wpList_append_lies _ rfl _ _ _ rfl w1.heap.size 3 i0 _ 1 8 Try.underlying22 hi0 hz0 hz1 hz2 rfl (by omega) _ (q + 1) _ rfl (hown.alloc _) ⟨w4.heap.size, 0, none⟩ 1 1 [.int .i64 m] rfl rfl (World.news_of_block (heap_alloc_new _ _)) (by simp [Value.oneCell']) (by omega) (by simp only [maxLen]; omega) (by omega) (by simp; omega) (w4.heap.size + 1) (by simp) ?_; intro gg cap' w5 hown1 hgrow hat hlt2; have b5 : Blk w5 (R + 1) 24 [v, .int .i64 Tj, .int .i64 Uj] := (hgrow.block (R + 1) (by simp; omega) (Ne.symm av)).trans (bS.alloc _); have s0 := b5.cell 0; have s1 := b5.cell 1; have s2 := b5.cell 2; have f0 := b5.frozen 0; have f1 := b5.frozen 1; have f2 := b5.frozen 2; simp at s0 s1 s2)
        have b7 := Lib.hid (((b5.set_ 0 (.slice (some ⟨gg, 0, none⟩) (q + 1 + 1) cap')).set_ 1 (.int .i64 T1)).set_ 2 (.int .i64 U1))
        have hggS : gg ≠ R + 1 := by have := (hown1.lt gg rfl).1; omega
        have own7 := Lib.hid (own_only hown1 ((((Only.refl [R + 1] w5).setCell (p := ⟨R + 1, 0, none⟩) (.inl (by simp)) (.slice (some ⟨gg, 0, none⟩) (q + 1 + 1) cap')).setCell (p := ⟨R + 1, 1, none⟩) (.inl (by simp)) (.int .i64 T1)).setCell (p := ⟨R + 1, 2, none⟩) (.inl (by simp)) (.int .i64 U1)) (by intro q hq; simp [Value.ownBlock] at hq ⊢; omega))
        have O17 := Lib.hid (((((M4.out.only.alloc (.cells #[.int .i64 m] 3)).grown hgrow (fun q hq => .inr (hown.lt q hq).1)).setCell (p := ⟨R + 1, 0, none⟩) (.inl (by simp)) (.slice (some ⟨gg, 0, none⟩) (q + 1 + 1) cap')).setCell (p := ⟨R + 1, 1, none⟩) (.inl (by simp)) (.int .i64 T1)).setCell (p := ⟨R + 1, 2, none⟩) (.inl (by simp)) (.int .i64 U1))
        generalize (((w5.setCell ⟨R + 1, 0, none⟩ (.slice (some ⟨gg, 0, none⟩) (q + 1 + 1) cap')).setCell ⟨R + 1, 1, none⟩ (.int .i64 T1)).setCell ⟨R + 1, 2, none⟩ (.int .i64 U1)) = W7 at *
        have H7 := Lib.hid (fun (W : World) (hW : Only [R + 1] W7 W) => H.out.newer (((X1.out.more (T := [R + 1]) (by simp)).trans O17.out).trans hW) (by intro q hq; have := HR.out; simp at hq; omega))
        have TB := Lib.hid (fun i (hi : i ≤ n) => topC_rng (s := T1) (m := m) (H.out.low (q + 1) hlt).1 i (by rw [(H.out.ok (q + 1) hlt).la]; exact hi))
        clear b5 s0 s1 s2 f0 f1 f2 hgrow hat hlt2 hown1 c0 bS hown av
        go_wp2
        go_loopw [11] (fun c wr => ∃ c' : Nat, c' ≤ n ∧ c = .int .i64 c' ∧ Blk wr (R + 1) 24 [.slice (some ⟨gg, 0, none⟩) (q + 1 + 1) cap', .int .i64 (topC T1 m (l[q + 1]).v.ha c'), .int .i64 (botC U1 m (l[q + 1]).v.hb c')] ∧ Only [R + 1] W7 wr) (fun c _ => n - (intOf c).toNat)
        case atStart => exact ⟨0, by omega, rfl, b7.out, Only.refl _ _⟩
        case round =>
          obtain ⟨c, hc, rfl, hB, hO⟩ := hrel
          by_cases hlc : c < n
          · have HB := Lib.hid hB
            have HO := Lib.hid hO
            have y0 : wr.cell? ⟨R + 1, 1, none⟩ = some (.int .i64 (topC T1 m (l[q + 1]).v.ha c)) := hB.cell 1
            have y1 : wr.cell? ⟨R + 1, 2, none⟩ = some (.int .i64 (botC U1 m (l[q + 1]).v.hb c)) := hB.cell 2
            clear hB hO
            have S7 := Lib.hid (H7.out wr HO.out)
            have hca := sky_cell (S7.out.ok (q + 1) hlt).la hlc
            have hcb := sky_cell (S7.out.ok (q + 1) hlt).lb hlc
            have k0 : wr.cell? ⟨k, (q + 1) * 3, none⟩ = some (.pointer (some ⟨(l[q + 1]).sa, 0, none⟩)) := by first | exact S7.out.cell (q + 1) hlt 0 _ rfl | simpa using S7.out.cell (q + 1) hlt 0 _ rfl
            have k1 : wr.cell? ⟨k, (q + 1) * 3 + 1, none⟩ = some (.pointer (some ⟨(l[q + 1]).sb, 0, none⟩)) := by first | exact S7.out.cell (q + 1) hlt 1 _ rfl | simpa using S7.out.cell (q + 1) hlt 1 _ rfl
            have r1 := (S7.out.low (q + 1) hlt).1 _ (List.getElem_mem hca)
            have r2 := (S7.out.low (q + 1) hlt).2 _ (List.getElem_mem hcb)
            obtain ⟨hi, hhi⟩ : ∃ hi, 1 * (l[q + 1]).v.ha[c] = hi := ⟨_, rfl⟩
            obtain ⟨lo, hlo⟩ : ∃ lo, -1 * (l[q + 1]).v.hb[c] = lo := ⟨_, rfl⟩
            have A1 := Lib.hid (fun i => height_is ((S7.out.ok (q + 1) hlt).above.drewN i) hca hhi)
            have A2 := Lib.hid (fun i => height_is ((S7.out.ok (q + 1) hlt).below.drewN i) hcb hlo)
            have tc : topC T1 m (l[q + 1]).v.ha (c + 1) = max (topC T1 m (l[q + 1]).v.ha c) (m + hi) := by rw [topC, getD_get hca]; omega
            have uc : botC U1 m (l[q + 1]).v.hb (c + 1) = min (botC U1 m (l[q + 1]).v.hb c) (m + lo) := by rw [botC, getD_get hcb]; omega
            obtain ⟨T2, hT2⟩ : ∃ T2, topC T1 m (l[q + 1]).v.ha (c + 1) = T2 := ⟨_, rfl⟩
            obtain ⟨U2, hU2⟩ : ∃ U2, botC U1 m (l[q + 1]).v.hb (c + 1) = U2 := ⟨_, rfl⟩
            have HT2 := Lib.hid hT2
            have HU2 := Lib.hid hU2
            rw [hT2] at tc
            rw [hU2] at uc
            have b1 : 0 ≤ hi ∧ hi ≤ 8128 := by omega
            have b2 : -8128 ≤ lo ∧ lo ≤ 0 := by omega
            have W1 : IntKind.i64.wrap (m + hi) = m + hi := IntWalk.i64_in _ (by omega)
            have W2 : IntKind.i64.wrap (m + lo) = m + lo := IntWalk.i64_in _ (by omega)
            generalize topC T1 m (l[q + 1]).v.ha c = Tc at *
            generalize botC U1 m (l[q + 1]).v.hb c = Uc at *
            have tc2 : (if Tc < m + hi then m + hi else Tc) = T2 := by omega
            have uc2 : (if m + lo < Uc then m + lo else Uc) = U2 := by omega
            generalize (l[q + 1]).sa = sa at *
            generalize (l[q + 1]).sb = sb at *
            have f1 : wr.frozen? ⟨R + 1, 1, none⟩ = false := HB.out.frozen 1
            have f2 : wr.frozen? ⟨R + 1, 2, none⟩ = false := HB.out.frozen 2
            clear tc uc hhi hlo hT2 hU2 r1 r2 hca hcb
            go_wp2
            refine wp_late_drew 25 [14, 22, 23] (by kernel_rfl) (by kernel_rfl) (fun _ _ d _ _ h => by cases d <;> exact h) ?_
            simp only [List.take_succ_cons, List.take_zero, List.drop_succ_cons, List.drop_zero]
            refine wpLex_seg 14 0 _ _ (by decide) (by decide) ?_
            simp only [List.take_succ_cons, List.take_zero, List.drop_succ_cons, List.drop_zero]
            repeat (go_big_quiet_step (first | (go_at_call 46; with_reducible exact Calls.quiet_of (A1.out _)) | (go_at_call 46; with_reducible exact Calls.quiet_of (A2.out _))))
            refine wpQuiet_nil ?_
            refine wpLex_pure (.int .i64 m) (by decide) rfl (fun w => by go_simp) ?_
            simp only [Act.put, List.setIfInBounds_toArray, List.set_cons_zero, List.set_cons_succ]
            refine wpLex_seg 7 _ _ _ (by decide) (by decide) ?_
            simp only [List.take_succ_cons, List.take_zero, List.drop_succ_cons, List.drop_zero]
            repeat (go_big_quiet_step (first | (go_at_call 46; with_reducible exact quiet_addE (A1.out _)) | (go_at_call 46; with_reducible exact quiet_addE (A2.out _)) | (go_at_call 46; with_reducible exact Calls.quiet_of (A1.out _)) | (go_at_call 46; with_reducible exact Calls.quiet_of (A2.out _))))
            refine wpQuiet_nil ?_
            refine wpLex_pure (.int .i64 (m + lo)) (by decide) rfl (fun w => by go_simp) ?_
            simp only [Act.put, List.setIfInBounds_toArray, List.set_cons_zero, List.set_cons_succ]
            refine wpLex_pure (.int .i64 U2) (by decide) rfl (fun w => by go_simp) ?_
            simp only [Act.put, List.setIfInBounds_toArray, List.set_cons_zero, List.set_cons_succ]
            refine wpLex_seg 1 _ _ _ (by decide) (by decide) ?_
            simp only [List.take_succ_cons, List.take_zero, List.drop_succ_cons, List.drop_zero]
            repeat (go_big_quiet_step (first | (go_at_call 46; with_reducible exact quiet_addE (A1.out _)) | (go_at_call 46; with_reducible exact quiet_addE (A2.out _)) | (go_at_call 46; with_reducible exact Calls.quiet_of (A1.out _)) | (go_at_call 46; with_reducible exact Calls.quiet_of (A2.out _))))
            refine wpQuiet_nil ?_
            refine wpLex_nil ?_
            intro nq
            go_wp2
            go_roundw
            case rel =>
              refine ⟨c + 1, by omega, by go_num, ?_, ?_⟩
              · rw [HT2.out, HU2.out]
                exact ((HB.out.drewN nq).set_ 1 _).set_ 2 _
              · exact ((HO.out.drewN nq).setCell (p := ⟨R + 1, 1, none⟩) (.inl (by simp)) _).setCell (p := ⟨R + 1, 2, none⟩) (.inl (by simp)) _
            case measure => simp [intOf]; omega
          · obtain rfl : c = n := by omega
            have HB := Lib.hid hB
            have HO := Lib.hid hO
            have TQ : Hid (topC T1 m (l[q + 1]).v.ha c = topTo (l.map StaffR.v) gap least (q + 1 + 1)) := Lib.hid (by rw [TE.out, topC_eq T1 m (H.out.ok (q + 1) hlt).la hn]; omega)
            have UQ : Hid (botC U1 m (l[q + 1]).v.hb c = botTo (l.map StaffR.v) gap least (q + 1 + 1)) := Lib.hid (by rw [UE.out, botC_eq U1 m (H.out.ok (q + 1) hlt).lb hn]; omega)
            clear hB hO
            go_wp2
            go_roundw
            case rel =>
              refine ⟨q + 1 + 1, .slice (some ⟨gg, 0, none⟩) (q + 1 + 1) cap', by omega, by go_num, ?_, ?_⟩
              · rw [show q + 1 + 1 - 1 = q + 1 by omega, HMID.out]
              · refine ⟨?_, ?_, ?_⟩
                · rw [← TQ.out, ← UQ.out]
                  exact HB.out
                · rw [List.range_succ, List.map_append, List.map_append, List.map_singleton, List.map_singleton, HMID.out]
                  exact own_only own7.out HO.out (by intro q hq; simp [Value.ownBlock] at hq ⊢; omega)
                · exact O17.out.trans HO.out
            case measure => simp [intOf]; omega
      · obtain rfl : j = 0 := by omega
        rw [show midTo (l.map StaffR.v) gap least (0 - 1) = m from HMID.out]
        obtain ⟨w4, hw4⟩ : ∃ w4, wr = w4 := ⟨_, rfl⟩
        have p5 : Only [] wr w4 := by rw [hw4]; exact Only.refl [] w4
        rw [hw4]
        clear hw4
        have M4 := Lib.hid (show MStk w1 w4 (R + 1) (l.map StaffR.v) gap least (0) v from ⟨HM.out.blk.only p5 (by simp), own_only HM.out.own p5 (by simp), HM.out.only.trans (p5.more (by simp))⟩)
        have HS4 := Lib.hid (HS.out.newer p5 (by simp))
        have TE : Hid (topTo (l.map StaffR.v) gap least (0 + 1) = max (topTo (l.map StaffR.v) gap least (0)) (max (midTo (l.map StaffR.v) gap least (0)) (midTo (l.map StaffR.v) gap least (0) + maxL (l[0]).v.ha))) := Lib.hid (by have e := topTo_step (l.map StaffR.v) gap least 0; rw [getD_map hlt] at e; exact e)
        have UE : Hid (botTo (l.map StaffR.v) gap least (0 + 1) = min (botTo (l.map StaffR.v) gap least (0)) (min (midTo (l.map StaffR.v) gap least (0)) (midTo (l.map StaffR.v) gap least (0) - maxL (l[0]).v.hb))) := Lib.hid (by have e := botTo_step (l.map StaffR.v) gap least 0; rw [getD_map hlt] at e; exact e)
        rw [HMID.out] at TE UE
        have bS := M4.out.blk
        have hown := M4.out.own
        have hsz := M4.out.only.size
        have av : v.ownBlock ≠ some (R + 1) := own_far hown bS (by decide)
        generalize topTo (l.map StaffR.v) gap least (0) = Tj at *
        generalize botTo (l.map StaffR.v) gap least (0) = Uj at *
        have c0 : w4.cell? ⟨R + 1, 0, none⟩ = some v := bS.cell 0
        obtain ⟨T1, hT1⟩ : ∃ T1, (if Tj < m then m else Tj) = T1 := ⟨_, rfl⟩
        obtain ⟨U1, hU1⟩ : ∃ U1, (if m < Uj then m else Uj) = U1 := ⟨_, rfl⟩
        clear HM p5
        go_wp2_with (at_builtin; refine wpList_append_lies _ rfl _ _ _ rfl w1.heap.size 3 i0 _ 1 8 Try.underlying22 hi0 hz0 hz1 hz2 rfl (by omega) _ (0) _ rfl (hown.alloc _) ⟨w4.heap.size, 0, none⟩ 1 1 [.int .i64 m] rfl rfl (World.news_of_block (heap_alloc_new _ _)) (by simp [Value.oneCell']) (by omega) (by simp only [maxLen]; omega) (by omega) (by simp; omega) (w4.heap.size + 1) (by simp) ?_; intro gg cap' w5 hown1 hgrow hat hlt2; have b5 : Blk w5 (R + 1) 24 [v, .int .i64 Tj, .int .i64 Uj] := (hgrow.block (R + 1) (by simp; omega) (Ne.symm av)).trans (bS.alloc _); have s0 := b5.cell 0; have s1 := b5.cell 1; have s2 := b5.cell 2; have f0 := b5.frozen 0; have f1 := b5.frozen 1; have f2 := b5.frozen 2; simp at s0 s1 s2)
        have b7 := Lib.hid (((b5.set_ 0 (.slice (some ⟨gg, 0, none⟩) (1) cap')).set_ 1 (.int .i64 T1)).set_ 2 (.int .i64 U1))
        have hggS : gg ≠ R + 1 := by have := (hown1.lt gg rfl).1; omega
        have own7 := Lib.hid (own_only hown1 ((((Only.refl [R + 1] w5).setCell (p := ⟨R + 1, 0, none⟩) (.inl (by simp)) (.slice (some ⟨gg, 0, none⟩) (1) cap')).setCell (p := ⟨R + 1, 1, none⟩) (.inl (by simp)) (.int .i64 T1)).setCell (p := ⟨R + 1, 2, none⟩) (.inl (by simp)) (.int .i64 U1)) (by intro q hq; simp [Value.ownBlock] at hq ⊢; omega))
        have O17 := Lib.hid (((((M4.out.only.alloc (.cells #[.int .i64 m] 3)).grown hgrow (fun q hq => .inr (hown.lt q hq).1)).setCell (p := ⟨R + 1, 0, none⟩) (.inl (by simp)) (.slice (some ⟨gg, 0, none⟩) (1) cap')).setCell (p := ⟨R + 1, 1, none⟩) (.inl (by simp)) (.int .i64 T1)).setCell (p := ⟨R + 1, 2, none⟩) (.inl (by simp)) (.int .i64 U1))
        generalize (((w5.setCell ⟨R + 1, 0, none⟩ (.slice (some ⟨gg, 0, none⟩) (1) cap')).setCell ⟨R + 1, 1, none⟩ (.int .i64 T1)).setCell ⟨R + 1, 2, none⟩ (.int .i64 U1)) = W7 at *
        have H7 := Lib.hid (fun (W : World) (hW : Only [R + 1] W7 W) => H.out.newer (((X1.out.more (T := [R + 1]) (by simp)).trans O17.out).trans hW) (by intro q hq; have := HR.out; simp at hq; omega))
        have TB := Lib.hid (fun i (hi : i ≤ n) => topC_rng (s := T1) (m := m) (H.out.low (0) hlt).1 i (by rw [(H.out.ok (0) hlt).la]; exact hi))
        clear b5 s0 s1 s2 f0 f1 f2 hgrow hat hlt2 hown1 c0 bS hown av
        go_wp2
        go_loopw [11] (fun c wr => ∃ c' : Nat, c' ≤ n ∧ c = .int .i64 c' ∧ Blk wr (R + 1) 24 [.slice (some ⟨gg, 0, none⟩) (1) cap', .int .i64 (topC T1 m (l[0]).v.ha c'), .int .i64 (botC U1 m (l[0]).v.hb c')] ∧ Only [R + 1] W7 wr) (fun c _ => n - (intOf c).toNat)
        case atStart => exact ⟨0, by omega, rfl, b7.out, Only.refl _ _⟩
        case round =>
          obtain ⟨c, hc, rfl, hB, hO⟩ := hrel
          by_cases hlc : c < n
          · have HB := Lib.hid hB
            have HO := Lib.hid hO
            have y0 : wr.cell? ⟨R + 1, 1, none⟩ = some (.int .i64 (topC T1 m (l[0]).v.ha c)) := hB.cell 1
            have y1 : wr.cell? ⟨R + 1, 2, none⟩ = some (.int .i64 (botC U1 m (l[0]).v.hb c)) := hB.cell 2
            clear hB hO
            have S7 := Lib.hid (H7.out wr HO.out)
            have hca := sky_cell (S7.out.ok (0) hlt).la hlc
            have hcb := sky_cell (S7.out.ok (0) hlt).lb hlc
            have k0 : wr.cell? ⟨k, 0, none⟩ = some (.pointer (some ⟨(l[0]).sa, 0, none⟩)) := by first | exact S7.out.cell (0) hlt 0 _ rfl | simpa using S7.out.cell (0) hlt 0 _ rfl
            have k1 : wr.cell? ⟨k, 1, none⟩ = some (.pointer (some ⟨(l[0]).sb, 0, none⟩)) := by first | exact S7.out.cell (0) hlt 1 _ rfl | simpa using S7.out.cell (0) hlt 1 _ rfl
            have r1 := (S7.out.low (0) hlt).1 _ (List.getElem_mem hca)
            have r2 := (S7.out.low (0) hlt).2 _ (List.getElem_mem hcb)
            obtain ⟨hi, hhi⟩ : ∃ hi, 1 * (l[0]).v.ha[c] = hi := ⟨_, rfl⟩
            obtain ⟨lo, hlo⟩ : ∃ lo, -1 * (l[0]).v.hb[c] = lo := ⟨_, rfl⟩
            have A1 := Lib.hid (fun i => height_is ((S7.out.ok (0) hlt).above.drewN i) hca hhi)
            have A2 := Lib.hid (fun i => height_is ((S7.out.ok (0) hlt).below.drewN i) hcb hlo)
            have tc : topC T1 m (l[0]).v.ha (c + 1) = max (topC T1 m (l[0]).v.ha c) (m + hi) := by rw [topC, getD_get hca]; omega
            have uc : botC U1 m (l[0]).v.hb (c + 1) = min (botC U1 m (l[0]).v.hb c) (m + lo) := by rw [botC, getD_get hcb]; omega
            obtain ⟨T2, hT2⟩ : ∃ T2, topC T1 m (l[0]).v.ha (c + 1) = T2 := ⟨_, rfl⟩
            obtain ⟨U2, hU2⟩ : ∃ U2, botC U1 m (l[0]).v.hb (c + 1) = U2 := ⟨_, rfl⟩
            have HT2 := Lib.hid hT2
            have HU2 := Lib.hid hU2
            rw [hT2] at tc
            rw [hU2] at uc
            have b1 : 0 ≤ hi ∧ hi ≤ 8128 := by omega
            have b2 : -8128 ≤ lo ∧ lo ≤ 0 := by omega
            have W1 : IntKind.i64.wrap (m + hi) = m + hi := IntWalk.i64_in _ (by omega)
            have W2 : IntKind.i64.wrap (m + lo) = m + lo := IntWalk.i64_in _ (by omega)
            generalize topC T1 m (l[0]).v.ha c = Tc at *
            generalize botC U1 m (l[0]).v.hb c = Uc at *
            have tc2 : (if Tc < m + hi then m + hi else Tc) = T2 := by omega
            have uc2 : (if m + lo < Uc then m + lo else Uc) = U2 := by omega
            generalize (l[0]).sa = sa at *
            generalize (l[0]).sb = sb at *
            have f1 : wr.frozen? ⟨R + 1, 1, none⟩ = false := HB.out.frozen 1
            have f2 : wr.frozen? ⟨R + 1, 2, none⟩ = false := HB.out.frozen 2
            clear tc uc hhi hlo hT2 hU2 r1 r2 hca hcb
            go_wp2
            refine wp_late_drew 25 [14, 22, 23] (by kernel_rfl) (by kernel_rfl) (fun _ _ d _ _ h => by cases d <;> exact h) ?_
            simp only [List.take_succ_cons, List.take_zero, List.drop_succ_cons, List.drop_zero]
            refine wpLex_seg 14 0 _ _ (by decide) (by decide) ?_
            simp only [List.take_succ_cons, List.take_zero, List.drop_succ_cons, List.drop_zero]
            repeat (go_big_quiet_step (first | (go_at_call 46; with_reducible exact Calls.quiet_of (A1.out _)) | (go_at_call 46; with_reducible exact Calls.quiet_of (A2.out _))))
            refine wpQuiet_nil ?_
            refine wpLex_pure (.int .i64 m) (by decide) rfl (fun w => by go_simp) ?_
            simp only [Act.put, List.setIfInBounds_toArray, List.set_cons_zero, List.set_cons_succ]
            refine wpLex_seg 7 _ _ _ (by decide) (by decide) ?_
            simp only [List.take_succ_cons, List.take_zero, List.drop_succ_cons, List.drop_zero]
            repeat (go_big_quiet_step (first | (go_at_call 46; with_reducible exact quiet_addE (A1.out _)) | (go_at_call 46; with_reducible exact quiet_addE (A2.out _)) | (go_at_call 46; with_reducible exact Calls.quiet_of (A1.out _)) | (go_at_call 46; with_reducible exact Calls.quiet_of (A2.out _))))
            refine wpQuiet_nil ?_
            refine wpLex_pure (.int .i64 (m + lo)) (by decide) rfl (fun w => by go_simp) ?_
            simp only [Act.put, List.setIfInBounds_toArray, List.set_cons_zero, List.set_cons_succ]
            refine wpLex_pure (.int .i64 U2) (by decide) rfl (fun w => by go_simp) ?_
            simp only [Act.put, List.setIfInBounds_toArray, List.set_cons_zero, List.set_cons_succ]
            refine wpLex_seg 1 _ _ _ (by decide) (by decide) ?_
            simp only [List.take_succ_cons, List.take_zero, List.drop_succ_cons, List.drop_zero]
            repeat (go_big_quiet_step (first | (go_at_call 46; with_reducible exact quiet_addE (A1.out _)) | (go_at_call 46; with_reducible exact quiet_addE (A2.out _)) | (go_at_call 46; with_reducible exact Calls.quiet_of (A1.out _)) | (go_at_call 46; with_reducible exact Calls.quiet_of (A2.out _))))
            refine wpQuiet_nil ?_
            refine wpLex_nil ?_
            intro nq
            go_wp2
            go_roundw
            case rel =>
              refine ⟨c + 1, by omega, by go_num, ?_, ?_⟩
              · rw [HT2.out, HU2.out]
                exact ((HB.out.drewN nq).set_ 1 _).set_ 2 _
              · exact ((HO.out.drewN nq).setCell (p := ⟨R + 1, 1, none⟩) (.inl (by simp)) _).setCell (p := ⟨R + 1, 2, none⟩) (.inl (by simp)) _
            case measure => simp [intOf]; omega
          · obtain rfl : c = n := by omega
            have HB := Lib.hid hB
            have HO := Lib.hid hO
            have TQ : Hid (topC T1 m (l[0]).v.ha c = topTo (l.map StaffR.v) gap least (0 + 1)) := Lib.hid (by rw [TE.out, topC_eq T1 m (H.out.ok (0) hlt).la hn]; omega)
            have UQ : Hid (botC U1 m (l[0]).v.hb c = botTo (l.map StaffR.v) gap least (0 + 1)) := Lib.hid (by rw [UE.out, botC_eq U1 m (H.out.ok (0) hlt).lb hn]; omega)
            clear hB hO
            go_wp2
            go_roundw
            case rel =>
              refine ⟨0 + 1, .slice (some ⟨gg, 0, none⟩) (1) cap', by omega, by go_num, ?_, ?_⟩
              · rw [show 0 + 1 - 1 = 0 by omega, HMID.out]
              · refine ⟨?_, ?_, ?_⟩
                · rw [← TQ.out, ← UQ.out]
                  exact HB.out
                · rw [List.range_succ, List.map_append, List.map_append, List.map_singleton, List.map_singleton, HMID.out]
                  exact own_only own7.out HO.out (by intro q hq; simp [Value.ownBlock] at hq ⊢; omega)
                · exact O17.out.trans HO.out
            case measure => simp [intOf]; omega
    · obtain rfl : j = l.length := by omega
      skip
      have bS := hm.blk
      have hown := hm.own
      obtain ⟨A, c, rfl, hl, hat⟩ := own_ints hown
      have q0 : wr.cell? ⟨R + 1, 0, none⟩ = some (.slice A l.length c) := bS.cell 0
      have q1 : wr.cell? ⟨R + 1, 1, none⟩ = some (.int .i64 (topTo (l.map StaffR.v) gap least l.length)) := bS.cell 1
      have q2 : wr.cell? ⟨R + 1, 2, none⟩ = some (.int .i64 (botTo (l.map StaffR.v) gap least l.length)) := bS.cell 2
      have bR := RB1.out.only hm.only (by simp)
      have r0 : wr.cell? ⟨R, 0, none⟩ = some (.slice none 0 0) := bR.cell 0
      have r1 : wr.cell? ⟨R, 1, none⟩ = some (.int .i64 0) := bR.cell 1
      have r2 : wr.cell? ⟨R, 2, none⟩ = some (.int .i64 0) := bR.cell 2
      have f0 := bR.frozen 0
      have f1 := bR.frozen 1
      have f2 := bR.frozen 2
      obtain ⟨T, hT⟩ : ∃ T, topTo (l.map StaffR.v) gap least l.length = T := ⟨_, rfl⟩
      obtain ⟨U, hU⟩ : ∃ U, botTo (l.map StaffR.v) gap least l.length = U := ⟨_, rfl⟩
      rw [hT] at q1
      rw [hU] at q2
      have HT := Lib.hid hT
      have HU := Lib.hid hU
      have BR := Lib.hid bR
      have XR := Lib.hid ((X1.out.more (T := [R + 1]) (by simp)).trans hm.only)
      have HAT := Lib.hid hat
      have HL := Lib.hid hl
      have hRw : R < wr.heap.size := bR.lt
      have HW1 := Lib.hid (show R < w1.heap.size from RB1.out.lt)
      clear hT hU hat hl bS hown hm bR
      go_wp2
      have b9 := ((BR.out.set_ 0 (.slice A l.length c)).set_ 1 (.int .i64 T)).set_ 2 (.int .i64 U)
      have e0 := b9.cell 0
      have e1 := b9.cell 1
      have e2 := b9.cell 2
      simp at e0 e1 e2
      have o9 := (((Only.refl [R] wr).setCell (p := ⟨R, 0, none⟩) (.inl (by simp)) (.slice A l.length c)).setCell (p := ⟨R, 1, none⟩) (.inl (by simp)) (.int .i64 T)).setCell (p := ⟨R, 2, none⟩) (.inl (by simp)) (.int .i64 U)
      have O9 := (XR.out.more (T := [R, R + 1]) (by simp)).trans (o9.more (T := [R, R + 1]) (by simp))
      refine bodyPost_ret (v := sysV A l.length c T U) (by simp [results, Try.results23, go_sem, e0, e1, e2]) rfl ⟨A, c, by rw [List.length_map, HT.out, HU.out], fun i hi => ?_, O9.less fun p hp hlp => ?_⟩
      · obtain ⟨D, hA, hD1, hD2, hD3⟩ := HAT.out i (by have := HL.out; rw [mids_len, List.length_map] at hi; simp; omega)
        refine ⟨D, 0, hA, Nat.lt_of_lt_of_le hD2 o9.size, ?_⟩
        rw [Nat.zero_add, o9.cell (p := ⟨D, i, none⟩) hD2 (by have := HW1.out; simp; omega), hD3]
        simp [mids]
      · have h1 := HR.out
        simp at hp
        omega
end Go.Proofs.Yticpophdoiljfaa
