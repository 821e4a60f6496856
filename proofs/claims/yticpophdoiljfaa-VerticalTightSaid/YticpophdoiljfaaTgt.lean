/- DERIVED. VerticalTight: the walk. -/
import Derived.Test.YticpophdoiljfaaQt
import Derived.Test.YticpophdoiljfaaSpw
import Derived.Test.YticpophdoiljfaaMst
namespace Go.Proofs.Yticpophdoiljfaa
open Go.RowKit
attribute [local go_sem ↓] Go.wp_at_zero Go.wp_at_succ

theorem Only.trans_new {a b c : World} {S : List Nat} (h : Only [] a b) (k : Only S b c) (hS : ∀ p ∈ S, a.heap.size ≤ p) : Only [] a c :=
  ((h.more (T := S) (by simp)).trans k).less fun q hq hl => absurd hl (Nat.not_lt.2 (hS q hq))
/-- The first cells of a block are these integers. -/
def IRow (w : World) (g : Nat) (ms : List Int) : Prop := ∃ cs : List Value, Blk w g 3 cs ∧ ∀ i (hi : i < ms.length), cs[i]? = some (.int .i64 ms[i])
theorem IRow.lt {w : World} {g : Nat} {ms : List Int} (h : IRow w g ms) : g < w.heap.size := by
  obtain ⟨cs, hb, _⟩ := h
  exact hb.lt
theorem IRow.cell {w : World} {g : Nat} {ms : List Int} (h : IRow w g ms) (i : Nat) (hi : i < ms.length) : w.cell? ⟨g, i, none⟩ = some (.int .i64 ms[i]) := by
  obtain ⟨cs, hb, hc⟩ := h
  rw [hb.cell]
  exact hc i hi
theorem IRow.frozen {w : World} {g : Nat} {ms : List Int} (h : IRow w g ms) (i : Nat) : w.frozen? ⟨g, i, none⟩ = false := by
  obtain ⟨cs, hb, _⟩ := h
  exact hb.frozen i
theorem IRow.only {w w' : World} {g : Nat} {ms : List Int} {S : List Nat} (h : IRow w g ms) (ho : Only S w w') (hg : g ∉ S) : IRow w' g ms := by
  obtain ⟨cs, hb, hc⟩ := h
  exact ⟨cs, hb.only ho hg, hc⟩
theorem IRow.set {w : World} {g : Nat} {ms : List Int} (h : IRow w g ms) (i : Nat) (v : Int) : IRow (w.setCell ⟨g, i, none⟩ (.int .i64 v)) g (ms.set i v) := by
  obtain ⟨cs, hb, hc⟩ := h
  refine ⟨cs.set i (.int .i64 v), hb.set_ i _, fun j hj => ?_⟩
  rw [List.length_set] at hj
  have h1 := hc j hj
  have h2 : j < cs.length := (List.getElem?_eq_some_iff.1 h1).1
  rw [List.getElem?_set, List.getElem_set]
  by_cases e : i = j
  · rw [if_pos e, if_pos e, if_pos (by omega)]
  · rw [if_neg e, if_neg e]
    exact h1
theorem IRow.ints {w : World} {g : Nat} {ms : List Int} (h : IRow w g ms) : IntsAt w (some ⟨g, 0, none⟩) ms := fun i hi => ⟨g, 0, rfl, h.lt, by rw [Nat.zero_add]; exact h.cell i hi⟩
theorem row_of_own {w : World} {base g n cap : Nat} {ms : List Int} (h : w.ownsRow base 3 1 (.slice (some ⟨g, 0, none⟩) n cap) n (ms.map (.int .i64))) : IRow w g ms ∧ base ≤ g := by
  rcases h.2 with ⟨h1, _⟩ | ⟨g', cap', cur, he, hb, hg, _, _, _, hx⟩
  · cases h1
  · simp only [Value.slice.injEq, Option.some.injEq, Addr.mk.injEq] at he
    obtain ⟨⟨rfl, -, -⟩, -, -⟩ := he
    refine ⟨⟨cur.toList, by unfold Blk; simpa using hg, fun i hi => ?_⟩, hb⟩
    have h2 : (cur.toList.take (n * 1))[i]? = some (.int .i64 ms[i]) := by rw [hx]; simp [hi]
    rw [List.getElem?_take] at h2
    split at h2
    · exact h2
    · cases h2
theorem own_empty (w : World) (B : Nat) (h : w.heap[B]? = some (.cells #[] 3 (0, 0))) : w.ownsRow B 3 1 (.slice (some ⟨B, 0, none⟩) 0 0) 0 [] :=
  ⟨rfl, .inr ⟨B, 0, #[], rfl, Nat.le_refl _, h, Nat.le_refl _, by unfold maxLen; omega, rfl, rfl⟩⟩

theorem IRow.ne {w : World} {g B : Nat} {ms : List Int} {cs : List Value} (h : IRow w g ms) (hb : Blk w B 24 cs) : g ≠ B := by
  obtain ⟨ds, hd, _⟩ := h
  exact hd.ne_ hb (by decide)
/-- What the region has left: the new system and its row. -/
structure Way (W3 W9 : World) (B gg : Nat) (s t u : Value) (ms : List Int) : Prop where
  blk : Blk W9 B 24 [s, t, u]
  row : IRow W9 gg ms
  only : Only [] W3 W9
  new : W3.heap.size ≤ B ∧ W3.heap.size ≤ gg
theorem way_tight_set {W3 w5 : World} {B gg : Nat} {s t u s0 t0 u0 : Value} {ms : List Int} (zB : Blk w5 B 24 [s0, t0, u0]) (hr : IRow w5 gg ms) (p5 : Only [] W3 w5) (hB : W3.heap.size ≤ B) (hg : W3.heap.size ≤ gg) :
    Way W3 (((w5.setCell ⟨B, 0, none⟩ s).setCell ⟨B, 1, none⟩ t).setCell ⟨B, 2, none⟩ u) B gg s t u ms := by
  have o : Only [B] w5 (((w5.setCell ⟨B, 0, none⟩ s).setCell ⟨B, 1, none⟩ t).setCell ⟨B, 2, none⟩ u) := (((Only.refl [B] w5).setCell (p := ⟨B, 0, none⟩) (.inl (by simp)) s).setCell (p := ⟨B, 1, none⟩) (.inl (by simp)) t).setCell (p := ⟨B, 2, none⟩) (.inl (by simp)) u
  have hne := hr.ne zB
  exact ⟨((zB.set_ 0 s).set_ 1 t).set_ 2 u, hr.only o (by simpa using hne), ((p5.more (T := [B]) (by simp)).trans o).less (fun q hq hl => by simp at hq; omega), hB, hg⟩
theorem way_tight_new {W3 w5 : World} {gg : Nat} {s t u : Value} {ms : List Int} (hr : IRow w5 gg ms) (p5 : Only [] W3 w5) (hg : W3.heap.size ≤ gg) :
    Way W3 (w5.alloc (.cells #[s, t, u] 24)) w5.heap.size gg s t u ms :=
  ⟨Blk.new w5 _ _, hr.only ((Only.refl [] w5).alloc _) (by simp), p5.alloc _, p5.size, hg⟩

/-- The middle lines, those from k on one unit higher. -/
def upL (ms : List Int) (k i : Nat) : List Int := (List.range ms.length).map fun q => ms.getD q 0 + if k ≤ q ∧ q < i then 1 else 0
theorem upL_len (ms : List Int) (k i : Nat) : (upL ms k i).length = ms.length := by simp [upL]
theorem upL_at (ms : List Int) (k i q : Nat) (hq : q < (upL ms k i).length) : (upL ms k i)[q] = ms.getD q 0 + if k ≤ q ∧ q < i then 1 else 0 := by simp [upL]
theorem upL_start (ms : List Int) (k : Nat) : upL ms k k = ms := by
  apply List.ext_getElem (upL_len _ _ _)
  intro i h1 h2
  rw [upL_at, if_neg (by omega), getD_get h2]
  omega
theorem upL_step (ms : List Int) (k i : Nat) (hk : k ≤ i) (hi : i < ms.length) : (upL ms k i).set i (ms[i] + 1) = upL ms k (i + 1) := by
  apply List.ext_getElem (by simp [upL_len])
  intro j h1 h2
  rw [upL_len] at h2
  rw [List.getElem_set]
  by_cases e : i = j
  · subst e
    rw [if_pos rfl, upL_at, if_pos (by omega), getD_get hi]
  · rw [if_neg e, upL_at, upL_at]
    by_cases c : k ≤ j ∧ j < i
    · rw [if_pos c, if_pos (by omega)]
    · rw [if_neg c, if_neg (by omega)]

/-- The plain law: nearer by one unit the system is not clear, or the distance is less than least. -/
theorem tight_law {w : World} {k n : Nat} {l : List StaffR} (h : Stv w k l n) {gap least : Int} (q : Nat) (hq : q + 1 < l.length) (hge : least ≤ distV l[q].v l[q + 1].v gap least - 1) :
    ¬ ClearP l (upL (mids (l.map StaffR.v) gap least) (q + 1) l.length) gap := by
  intro hc
  have hl := (h.ok q (by omega)).lb.trans (h.ok (q + 1) hq).la.symm
  have hM := maxL_mem (l := sums l[q].v.hb l[q + 1].v.ha) (by rw [sums_len hl, (h.ok q (by omega)).lb]; exact h.npos)
  obtain ⟨i, hi, e⟩ := List.mem_iff_getElem.1 hM
  rw [sums_len hl] at hi
  rw [sums_get i hi (by omega)] at e
  have ml : (mids (l.map StaffR.v) gap least).length = l.length := by rw [mids_len, List.length_map]
  have h1 := hc q hq i hi (by omega)
  rw [getD_get (show q + 1 < (upL (mids (l.map StaffR.v) gap least) (q + 1) l.length).length by rw [upL_len]; omega), getD_get (show q < (upL (mids (l.map StaffR.v) gap least) (q + 1) l.length).length by rw [upL_len]; omega), upL_at, upL_at, if_pos (by omega), if_neg (by omega), mids_get _ _ _ _ (by rw [List.length_map]; omega), mids_get _ _ _ _ (by rw [List.length_map]; omega)] at h1
  have h2 : midTo (l.map StaffR.v) gap least (q + 1) = midTo (l.map StaffR.v) gap least q - distV l[q].v l[q + 1].v gap least := by rw [midTo, getD_map (show q < l.length by omega), getD_map hq]
  have h3 : distV l[q].v l[q + 1].v gap least = max least (distM l[q].v.hb l[q + 1].v.ha + gap) := rfl
  unfold distM at h3
  omega

set_option maxRecDepth 20000 in
set_option maxHeartbeats 40000000 in
theorem tight_any {w : World} {A : Option Addr} {X : List (List (Int × Int))} (cx : Nat) (hX : ColsAt w A X) (z : Int) (hz : 0 ≤ z ∧ z ≤ 255) (x y : Int) (hx : 0 ≤ x ∧ x ≤ 255) (hy : 0 ≤ y ∧ y ≤ 255) :
    Calls Try.prog 4 #[.slice A X.length cx, .int .u8 z, .agg #[.int .u8 x, .int .u8 y]] w fun e w' => e = .returned (.bool true) ∧ Only [] w w' := by
  obtain ⟨i0, hi0, hz0, hz1, hz2⟩ := info_parts int_info
  have XF := hX.few
  have XO := Lib.hid ((Only.refl [] w).alloc (.cells #[.int .u8 x, .int .u8 y] 33))
  have HB := Lib.hid (Blk.new w 33 [.int .u8 x, .int .u8 y])
  have HX := Lib.hid (hX.only XO.out (by simp))
  clear hX
  by_cases hlen : 2 ≤ X.length
  · have HZ := Lib.hid hlen
    have wa : IntKind.i64.wrap x = x := IntWalk.i64_in _ (by omega)
    have wb : IntKind.i64.wrap y = y := IntWalk.i64_in _ (by omega)
    have wz : IntKind.i64.wrap z = z := IntWalk.i64_in _ (by omega)
    have wc : IntKind.i64.wrap (4 * y) = 4 * y := IntWalk.i64_in _ (by omega)
    have wd : IntKind.i64.wrap (2 + 4 * y) = 2 + 4 * y := IntWalk.i64_in _ (by omega)
    go_enter Try.func4, Try.ntmps4
    go_wp2_with (first
      | (go_at_call 12; refine (known_any _).mono ?_; rintro e w2 ⟨rfl, o2⟩; have b2 := b1.only o2 (by simp); have b20 := b2.cell 0; have b21 := b2.cell 1; simp at b20 b21)
      | (go_at_call 16; refine (staves_any A X cx none [] 0 HX.out (BytesAt.none_ _)).mono ?_; rintro e w1 ⟨v, l, rfl, hc⟩; have b1 := HB.out.only hc.only (by simp); have HLN := Lib.hid (show 2 ≤ l.length by have := hc.len; have := HZ.out; omega); obtain ⟨k, cap, rfl, hk, hst, hL⟩ := stv_of_coll hc (by have := HZ.out; omega) HX.out.rng (BytesAt.none_ w).rng; have HST := Lib.hid hst; have l0 : decide ((l.length : Int) < 2) = false := (by have := HLN.out; simp; omega)))
    have X2 := Lib.hid ((XO.out.trans hc.only).trans o2)
    have HS2 := Lib.hid (HST.out.newer o2 (by simp))
    clear b1 b2 hc o2 hk hst hL HB HX HST
    go_quiet (fail)
    have X2' := Lib.hid (X2.out.drewN nq)
    have HS3 := Lib.hid (HS2.out.newer ((Only.refl [] w2).drewN nq) (by simp))
    clear wa wb wc wd b20 b21 X2 HS2
    obtain ⟨ls, hls⟩ : ∃ ls, 2 + 4 * y = ls := ⟨_, rfl⟩
    have l1 : 1 ≤ ls ∧ ls ≤ 65536 := by omega
    rw [hls]
    clear hls
    generalize w2.drewN nq = W0 at *
    obtain ⟨T, hT⟩ : ∃ T, topTo (l.map StaffR.v) x ls (l.map StaffR.v).length = T := ⟨_, rfl⟩
    obtain ⟨U, hU⟩ : ∃ U, botTo (l.map StaffR.v) x ls (l.map StaffR.v).length = U := ⟨_, rfl⟩
    have HUB : Hid (-700000 ≤ U ∧ U ≤ 0) := Lib.hid (by rw [← hU]; exact stack_bot HS3.out (by omega) (by omega) (by omega) (by omega))
    have HT := Lib.hid hT
    have HU := Lib.hid hU
    clear hT hU
    have lf := HS3.out.few
    have lp := HLN.out
    have nn : ((l.length : Int) != (l.length : Int)) = false := by simp
    have n1 : IntKind.i64.wrap ((l.length : Int) - 1) = (l.length : Int) - 1 := IntWalk.i64_in _ (by omega)
    have n0 : ¬ (l.length : Int) - 1 = 0 := by omega
    obtain ⟨q, hq⟩ : ∃ q : Nat, z % ((l.length : Int) - 1) = q := ⟨(z % ((l.length : Int) - 1)).toNat, by have := Int.emod_nonneg z n0; omega⟩
    have hq1 : q + 1 < l.length := by have := Int.emod_lt_of_pos z (show 0 < (l.length : Int) - 1 by omega); omega
    have n3 : IntKind.i64.wrap (1 + (q : Int)) = 1 + (q : Int) := IntWalk.i64_in _ (by omega)
    go_wp2_with (go_at_call 17; refine (Stack_ok cap HS3.out x ls (by omega) (by omega) (by omega) (by omega)).mono ?_; rintro e w3 ⟨g, cg, rfl, hg, hgw, hm, o3⟩; rw [HT.out, HU.out, List.length_map]; have B3 := Lib.hid (Blk.new w3 24 [.slice (some ⟨g, 0, none⟩) l.length cg, .int .i64 T, .int .i64 U]); have b30 := B3.out.cell 0; have O3 := Lib.hid (o3.alloc (.cells #[.slice (some ⟨g, 0, none⟩) l.length cg, .int .i64 T, .int .i64 U] 24)); have HM := Lib.hid (show IntsAt (w3.alloc (.cells #[.slice (some ⟨g, 0, none⟩) l.length cg, .int .i64 T, .int .i64 U] 24)) (some ⟨g, 0, none⟩) (mids (l.map StaffR.v) x ls) from fun i hi => ⟨g, 0, rfl, (by simp; omega), by rw [Nat.zero_add, World.cell?_alloc_lt _ _ ⟨g, i, none⟩ hgw, hm i (by rw [← mids_len]; exact hi), ← mids_get _ _ _ _ (by rw [← mids_len]; exact hi), getD_get hi]⟩))
    clear hg hm hgw o3
    generalize w3.alloc (.cells #[.slice (some ⟨g, 0, none⟩) l.length cg, .int .i64 T, .int .i64 U] 24) = W3 at *
    generalize w3.heap.size = B3i at *
    have ML := Lib.hid (show (mids (l.map StaffR.v) x ls).length = l.length by rw [mids_len, List.length_map])
    have OW := Lib.hid (X2'.out.trans O3.out)
    have HSW := Lib.hid (HS3.out.newer O3.out (by simp))
    have KEEP := Lib.hid (fun (W : World) (h : Only [] W3 W) => show W.cell? ⟨B3i, 0, none⟩ = some (.slice (some ⟨g, 0, none⟩) l.length cg) ∧ W.cell? ⟨B3i, 1, none⟩ = some (.int .i64 T) ∧ W.cell? ⟨B3i, 2, none⟩ = some (.int .i64 U) from ⟨(B3.out.only h (by simp)).cell 0, (B3.out.only h (by simp)).cell 1, (B3.out.only h (by simp)).cell 2⟩)
    have hub := HUB.out
    have u1 : IntKind.i64.wrap (U + 1) = U + 1 := IntWalk.i64_in _ (by omega)
    clear O3 X2' HS3 b30 n1 n0
    have NW := Lib.hid (fun (W : World) (h : Only [] W3 W) => show ∀ j u, ((mids (l.map StaffR.v) x ls).map (Value.int .i64))[j]? = some u → W.cell? ((⟨g, 0, none⟩ : Addr).add j) = some u from fun j u hu => by
      have hj : j < (mids (l.map StaffR.v) x ls).length := by have := (List.getElem?_eq_some_iff.1 hu).1; simpa using this
      rw [Addr.add_lit, Nat.zero_add, (HM.out.only h (by simp)).at0 j hj]
      rw [List.getElem?_map, List.getElem?_eq_getElem hj] at hu
      exact hu)
    have NO := Lib.hid (show ∀ u ∈ (mids (l.map StaffR.v) x ls).map (Value.int .i64), u.oneCell' = true from fun u hu => by
      obtain ⟨x1, _, rfl⟩ := List.mem_map.1 hu
      rfl)
    obtain ⟨y0, y1, y2⟩ := KEEP.out W3 (Only.refl [] W3)
    go_region_held3 (fun W => W.cell? ⟨B3i, 0, none⟩ = some (.slice (some ⟨g, 0, none⟩) l.length cg) ∧ W.cell? ⟨B3i, 1, none⟩ = some (.int .i64 T) ∧ W.cell? ⟨B3i, 2, none⟩ = some (.int .i64 U)) (first | exact ⟨y0, y1, y2⟩ | exact KEEP.out _ (Only.refl [] W3).drew | exact KEEP.out _ ((Only.refl [] W3).drew.alloc _) | exact KEEP.out _ (((Only.refl [] W3).drew.alloc _).alloc _) | exact KEEP.out _ P5.out | exact KEEP.out _ (P5.out.alloc _) | exact KEEP.out _ (((P5.out.setCell (.inr (by simp)) _).setCell (.inr (by simp)) _).setCell (.inr (by simp)) _)) (first
      | ((refine step_append_lies _ (by rfl) _ _ _ (by rfl) W3.heap.size 3 i0 _ 1 8 Try.underlying22 hi0 hz0 hz1 hz2 rfl (by omega) (.slice (some ⟨W3.heap.size, 0, none⟩) 0 0) 0 [] (by rfl) (own_empty _ W3.heap.size (by first | exact Blk.new W3 3 [] | exact (Blk.new W3 3 []).alloc _)) ⟨g, 0, none⟩ l.length cg ((mids (l.map StaffR.v) x ls).map (.int .i64)) (by rfl) (by rw [List.length_map, ML.out]; omega) (NW.out _ (by first | exact ((Only.refl [] W3).alloc _).drew | exact (((Only.refl [] W3).alloc _).alloc _).drew | exact ((Only.refl [] W3).drew.alloc _) | exact (((Only.refl [] W3).drew.alloc _).alloc _))) NO.out (by omega) (by unfold maxLen; omega) (by omega) (by simp <;> omega) _ rfl ?_; intro gg cap' w5 hown5 hgrow hat hlt5; (try (have zB : Blk w5 (W3.heap.size + 1) 24 [.slice none 0 0, .int .i64 0, .int .i64 0] := (hgrow.block (W3.heap.size + 1) (by simp) (by simp [Value.ownBlock])).trans (show Blk ((W3.alloc (.cells #[] 3)).alloc (.cells #[.slice none 0 0, .int .i64 0, .int .i64 0] 24)) (W3.heap.size + 1) 24 [.slice none 0 0, .int .i64 0, .int .i64 0] from (by have := Blk.new (W3.alloc (.cells #[] 3)) 24 [.slice none 0 0, .int .i64 0, .int .i64 0]; rw [World.size_alloc] at this; exact this)); have z0 := zB.cell 0; have z1 := zB.cell 1; have z2 := zB.cell 2; have zf0 := zB.frozen 0; have zf1 := zB.frozen 1; have zf2 := zB.frozen 2; simp at z0 z1 z2)); have P5 := Lib.hid (show Only [] W3 w5 from by first | exact ((((Only.refl [] W3).alloc _).alloc _).drew).grown hgrow (fun q hq => .inr (by simp [Value.ownBlock] at hq; omega)) | exact (((Only.refl [] W3).alloc _).drew).grown hgrow (fun q hq => .inr (by simp [Value.ownBlock] at hq; omega)) | exact (((Only.refl [] W3).drew.alloc _).alloc _).grown hgrow (fun q hq => .inr (by simp [Value.ownBlock] at hq; omega)) | exact ((Only.refl [] W3).drew.alloc _).grown hgrow (fun q hq => .inr (by simp [Value.ownBlock] at hq; omega)))))
      | ((refine step_append_lies _ (by rfl) _ _ _ (by rfl) (W3.heap.size + 1) 3 i0 _ 1 8 Try.underlying22 hi0 hz0 hz1 hz2 rfl (by omega) (.slice (some ⟨W3.heap.size + 1, 0, none⟩) 0 0) 0 [] (by rfl) (own_empty _ (W3.heap.size + 1) (by have := Blk.new (W3.alloc (.cells #[.slice none 0 0, .int .i64 0, .int .i64 0] 24)) 3 []; rw [World.size_alloc] at this; exact this)) ⟨g, 0, none⟩ l.length cg ((mids (l.map StaffR.v) x ls).map (.int .i64)) (by rfl) (by rw [List.length_map, ML.out]; omega) (NW.out _ (by first | exact ((Only.refl [] W3).alloc _).drew | exact (((Only.refl [] W3).alloc _).alloc _).drew | exact ((Only.refl [] W3).drew.alloc _) | exact (((Only.refl [] W3).drew.alloc _).alloc _))) NO.out (by omega) (by unfold maxLen; omega) (by omega) (by simp <;> omega) _ rfl ?_; intro gg cap' w5 hown5 hgrow hat hlt5; (try (have zB : Blk w5 W3.heap.size 24 [.slice none 0 0, .int .i64 0, .int .i64 0] := (hgrow.block W3.heap.size (by simp <;> omega) (by simp [Value.ownBlock])).trans (show Blk ((W3.alloc (.cells #[.slice none 0 0, .int .i64 0, .int .i64 0] 24)).alloc (.cells #[] 3)) W3.heap.size 24 [.slice none 0 0, .int .i64 0, .int .i64 0] from (Blk.new W3 24 [.slice none 0 0, .int .i64 0, .int .i64 0]).alloc _); have z0 := zB.cell 0; have z1 := zB.cell 1; have z2 := zB.cell 2; have zf0 := zB.frozen 0; have zf1 := zB.frozen 1; have zf2 := zB.frozen 2; simp at z0 z1 z2)); have P5 := Lib.hid (show Only [] W3 w5 from by first | exact ((((Only.refl [] W3).alloc _).alloc _).drew).grown hgrow (fun q hq => .inr (by simp [Value.ownBlock] at hq; omega)) | exact (((Only.refl [] W3).alloc _).drew).grown hgrow (fun q hq => .inr (by simp [Value.ownBlock] at hq; omega)) | exact (((Only.refl [] W3).drew.alloc _).alloc _).grown hgrow (fun q hq => .inr (by simp [Value.ownBlock] at hq; omega)) | exact ((Only.refl [] W3).drew.alloc _).grown hgrow (fun q hq => .inr (by simp [Value.ownBlock] at hq; omega))))))
    all_goals
      obtain ⟨hr5, hg5⟩ := row_of_own hown5
      have hg6 : W3.heap.size ≤ gg := by omega
      (first
        | (have HW := Lib.hid (way_tight_set (s := .slice (some ⟨gg, 0, none⟩) l.length cap') (t := .int .i64 T) (u := .int .i64 (U + 1)) zB hr5 P5.out (by simp) hg6); clear zB z0 z1 z2 zf0 zf1 zf2; generalize (((w5.setCell ⟨W3.heap.size, 0, none⟩ (.slice (some ⟨gg, 0, none⟩) l.length cap')).setCell ⟨W3.heap.size, 1, none⟩ (.int .i64 T)).setCell ⟨W3.heap.size, 2, none⟩ (.int .i64 (U + 1))) = W9 at HW ⊢; generalize W3.heap.size = B9 at HW ⊢; have _h : Way W3 W9 B9 gg _ _ _ _ := HW.out)
        | (have HW := Lib.hid (way_tight_set (s := .slice (some ⟨gg, 0, none⟩) l.length cap') (t := .int .i64 T) (u := .int .i64 (U + 1)) zB hr5 P5.out (by simp) hg6); clear zB z0 z1 z2 zf0 zf1 zf2; generalize (((w5.setCell ⟨W3.heap.size + 1, 0, none⟩ (.slice (some ⟨gg, 0, none⟩) l.length cap')).setCell ⟨W3.heap.size + 1, 1, none⟩ (.int .i64 T)).setCell ⟨W3.heap.size + 1, 2, none⟩ (.int .i64 (U + 1))) = W9 at HW ⊢; generalize W3.heap.size + 1 = B9 at HW ⊢; have _h : Way W3 W9 B9 gg _ _ _ _ := HW.out)
        | (have HW := Lib.hid (way_tight_new (s := .slice (some ⟨gg, 0, none⟩) l.length cap') (t := .int .i64 T) (u := .int .i64 (U + 1)) hr5 P5.out hg6); generalize w5.alloc (.cells #[.slice (some ⟨gg, 0, none⟩) l.length cap', .int .i64 T, .int .i64 (U + 1)] 24) = W9 at HW ⊢; generalize w5.heap.size = B9 at HW ⊢; have _h : Way W3 W9 B9 gg _ _ _ _ := HW.out))
      clear _h y0 y1 y2 hown5 hgrow hat hlt5 P5 hr5 hg5 hg6 NW NO u1
    all_goals
      have lg := HW.out.row.lt
      have hB9 := HW.out.blk.lt
      have nBg : gg ≠ B9 := HW.out.row.ne HW.out.blk
      have rq := mid_range HSW.out (gap := x) (least := ls) (by omega) (by omega) (by omega) (by omega)
      have RM := Lib.hid rq
      have dqe : midTo (l.map StaffR.v) x ls (q + 1) = midTo (l.map StaffR.v) x ls q - distV l[q].v l[q + 1].v x ls := by rw [midTo, getD_map (show q < l.length by omega), getD_map hq1]
      have dq1 : midTo (l.map StaffR.v) x ls (q + 1) ≤ midTo (l.map StaffR.v) x ls q - distV l[q].v l[q + 1].v x ls := by omega
      have dq2 : midTo (l.map StaffR.v) x ls q - distV l[q].v l[q + 1].v x ls ≤ midTo (l.map StaffR.v) x ls (q + 1) := by omega
      clear dqe
      have LAW := Lib.hid (fun (hge : ls ≤ distV l[q].v l[q + 1].v x ls - 1) => tight_law HSW.out q hq1 hge)
      have r0 := rq q (by omega)
      have r1 := rq (q + 1) hq1
      have rl := rq (l.length - 1) (by omega)
      have ME := Lib.hid (fun j (hj : j < l.length) => show (mids (l.map StaffR.v) x ls).getD j 0 = midTo (l.map StaffR.v) x ls j from mids_get _ _ _ _ (by rw [List.length_map]; exact hj))
      have E0 := Lib.hid (ME.out q (by omega))
      have E1 := Lib.hid (ME.out (q + 1) hq1)
      generalize midTo (l.map StaffR.v) x ls q = m0 at *
      generalize midTo (l.map StaffR.v) x ls (q + 1) = m1 at *
      generalize distV l[q].v l[q + 1].v x ls = dq at *
      have NEWS := Lib.hid HW.out.new
      have FIN := Lib.hid (fun (W : World) (h : Only [gg, B9] W9 W) => show Only [] w W from (OW.out.trans HW.out.only).trans_new h (by intro p hp; have h1 := OW.out.size; have h2 := NEWS.out; simp at hp; omega))
      have NNW := Lib.hid (show ∀ p ∈ [gg, B9], W3.heap.size ≤ p by intro p hp; have h2 := NEWS.out; simp at hp; omega)
      clear rq
      go_wp2
      go_loopw [14] (fun i wr => ∃ j : Nat, q + 1 ≤ j ∧ j ≤ l.length ∧ i = .int .i64 j ∧ IRow wr gg (upL (mids (l.map StaffR.v) x ls) (q + 1) j) ∧ Only [gg] W9 wr) (fun i _ => l.length - (intOf i).toNat)
      case atStart => exact ⟨q + 1, Nat.le_refl _, by omega, by go_num, by rw [upL_start]; exact HW.out.row, Only.refl _ _⟩
      case round =>
        obtain ⟨j, hj1, hj, rfl, hR, hO⟩ := hrel
        have HR := Lib.hid hR
        have HO := Lib.hid hO
        have BW := Lib.hid (HW.out.blk.only hO (by simp; omega))
        have b0 : wr.cell? ⟨B9, 0, none⟩ = some (.slice (some ⟨gg, 0, none⟩) l.length cap') := BW.out.cell 0
        by_cases hlt : j < l.length
        · have cj := hR.cell j (by rw [upL_len, ML.out]; exact hlt)
          have fj := hR.frozen j
          rw [upL_at, if_neg (by omega), Int.add_zero] at cj
          have rj := RM.out j hlt
          rw [← ME.out j hlt] at rj
          have ES := Lib.hid (upL_step (mids (l.map StaffR.v) x ls) (q + 1) j hj1 (by rw [ML.out]; exact hlt))
          rw [← getD_get (show j < (mids (l.map StaffR.v) x ls).length by rw [ML.out]; exact hlt)] at ES
          generalize (mids (l.map StaffR.v) x ls).getD j 0 = mj at *
          have wj : IntKind.i64.wrap (mj + 1) = mj + 1 := IntWalk.i64_in _ (by omega)
          have j0 : (0 : Int) ≤ (j : Int) := by omega
          have j1 : (j : Int) < (l.length : Int) := by omega
          clear hR hO
          go_wp2
          go_roundw
          case rel =>
            refine ⟨j + 1, by omega, by omega, by go_num, ?_, HO.out.setCell (p := ⟨gg, j, none⟩) (.inl (by simp)) _⟩
            rw [← ES.out]
            exact HR.out.set j _
          case measure => simp [intOf]; omega
        · obtain rfl : j = l.length := by omega
          have b2 : wr.cell? ⟨B9, 2, none⟩ = some (.int .i64 (U + 1)) := BW.out.cell 2
          have f2 : wr.frozen? ⟨B9, 2, none⟩ = false := BW.out.frozen 2
          have cl := hR.cell (l.length - 1) (by rw [upL_len, ML.out]; omega)
          rw [upL_at, if_pos (by omega), ME.out _ (by omega)] at cl
          generalize midTo (l.map StaffR.v) x ls (l.length - 1) = ml at *
          have n1 : IntKind.i64.wrap ((l.length : Int) - 1) = (l.length : Int) - 1 := IntWalk.i64_in _ (by omega)
          have n2 : ((l.length : Int) - 1).toNat = l.length - 1 := by omega
          have n4 : (0 : Int) ≤ (l.length : Int) - 1 := by omega
          have n5 : (l.length : Int) - 1 < (l.length : Int) := by omega
          have q0 : (0 : Int) ≤ (q : Int) := by omega
          have q1 : (q : Int) < (l.length : Int) := by omega
          have q2 : (0 : Int) ≤ 1 + (q : Int) := by omega
          have q3 : 1 + (q : Int) < (l.length : Int) := by omega
          have q5 : IntKind.i64.wrap (q : Int) = (q : Int) := IntWalk.i64_in _ (by omega)
          have q6 : IntKind.i64.wrap (m0 - (m1 + 1)) = m0 - (m1 + 1) := IntWalk.i64_in _ (by omega)
          have q4 : (1 + (q : Int)).toNat = q + 1 := by omega
          clear hO hR
          by_cases hup : ml + 1 < U + 1
          · have hup' : decide (ml < U) = true := by simp; omega
            go_wp2
            go_quiet (fail)
            go_wp2
            have B10 := Lib.hid ((BW.out.drewN nq).set_ 2 (.int .i64 (ml + 1)))
            have R10 := Lib.hid (HR.out.only (((Only.refl [B9] wr).drewN nq).setCell (p := ⟨B9, 2, none⟩) (.inl (by simp)) (.int .i64 (ml + 1))) (by simpa using nBg))
            have OX := Lib.hid ((HO.out.more (T := [gg, B9]) (by simp)).trans ((((Only.refl [B9] wr).drewN nq).setCell (p := ⟨B9, 2, none⟩) (.inl (by simp)) (.int .i64 (ml + 1))).more (T := [gg, B9]) (by simp)))
            have ON := Lib.hid ((HW.out.only.more (T := [gg, B9]) (by simp)).trans OX.out)
            clear b0 b2 f2 cl n1 n2 n4 n5
            generalize (wr.drewN nq).setCell ⟨B9, 2, none⟩ (.int .i64 (ml + 1)) = W10 at *
            have N := Lib.hid (fun (i : Near [] W10) => ON.out.trans (i.only.more (by simp)))
            have rw0 := fun (i : Near [] W10) => (R10.out.only i.only (by simp)).cell q (by rw [upL_len]; have := ML.out; omega)
            have rw1 := fun (i : Near [] W10) => (R10.out.only i.only (by simp)).cell (q + 1) (by rw [upL_len]; have := ML.out; omega)
            rw [upL_at, if_neg (by omega), E0.out, Int.add_zero] at rw0
            rw [upL_at, if_pos (by omega), E1.out] at rw1
            have s0 := fun (i : Near [] W10) => show i.W.cell? ⟨B9, 0, none⟩ = some (.slice (some ⟨gg, 0, none⟩) l.length cap') from (B10.out.only i.only (by simp)).cell 0
            have s1 := fun (i : Near [] W10) => show i.W.cell? ⟨B9, 1, none⟩ = some (.int .i64 T) from (B10.out.only i.only (by simp)).cell 1
            have s2 := fun (i : Near [] W10) => show i.W.cell? ⟨B9, 2, none⟩ = some (.int .i64 (ml + 1)) from (B10.out.only i.only (by simp)).cell 2
            have CLR := Lib.hid (fun (i : Near [] W10) (hge : ls ≤ dq - 1) => show Calls Try.prog 18 #[.slice (some ⟨k, 0, none⟩) l.length cap, sysV (some ⟨gg, 0, none⟩) l.length cap' T (ml + 1), .int .i64 x] i.W fun e w' => e = .returned (.bool false) ∧ Only [] i.W w' by
              have := Clear_any cap (HSW.out.newer (N.out i) NNW.out) cap' T (ml + 1) x (R10.out.only i.only (by simp)).ints (by rw [upL_len, ML.out]; omega)
              rw [upL_len, ML.out] at this
              refine this.mono ?_
              rintro e w' ⟨rfl, h1⟩
              exact ⟨ret_bool (clrB_false fun hh => LAW.out hge hh.2.2.2), h1⟩)
            by_cases hge : ls ≤ dq - 1
            · have g1 : decide (m0 - (m1 + 1) < ls) = false := by simp; omega
              go_wp2
              refine wp_near [] (by kernel_rfl) (by kernel_rfl) ?_
              repeat (go_big_quiet_step ((go_at_call 18; with_reducible exact near_call _ (CLR.out _ hge))))
              refine wpQuiet_nil ?_
              intro i
              obtain ⟨wq, pq⟩ := i
              dsimp only
              have HQ := Lib.hid (OX.out.trans (pq.more (by simp)))
              clear s0 s1 s2 rw0 rw1 pq
              go_wp2
              go_ret
              exact ⟨(by first | rfl | exact ret_bool (by simp)), FIN.out _ HQ.out⟩
            · have g1 : decide (m0 - (m1 + 1) < ls) = true := by simp; omega
              go_wp2
              refine wp_near [] (by kernel_rfl) (by kernel_rfl) ?_
              repeat (go_big_quiet_step (fail))
              refine wpQuiet_nil ?_
              intro i
              obtain ⟨wq, pq⟩ := i
              dsimp only
              have HQ := Lib.hid (OX.out.trans (pq.more (by simp)))
              clear s0 s1 s2 rw0 rw1 pq
              go_wp2
              go_ret
              exact ⟨(by first | rfl | exact ret_bool (by simp)), FIN.out _ HQ.out⟩
          · have hup' : decide (ml < U) = false := by simp; omega
            go_wp2
            go_quiet (fail)
            go_wp2
            have B10 := Lib.hid (BW.out.drewN nq)
            have R10 := Lib.hid (HR.out.only ((Only.refl [] wr).drewN nq) (by simp))
            have OX := Lib.hid ((HO.out.more (T := [gg, B9]) (by simp)).trans (((Only.refl [] wr).drewN nq).more (T := [gg, B9]) (by simp)))
            have ON := Lib.hid ((HW.out.only.more (T := [gg, B9]) (by simp)).trans OX.out)
            clear b0 b2 f2 cl n1 n2 n4 n5
            generalize wr.drewN nq = W10 at *
            have N := Lib.hid (fun (i : Near [] W10) => ON.out.trans (i.only.more (by simp)))
            have rw0 := fun (i : Near [] W10) => (R10.out.only i.only (by simp)).cell q (by rw [upL_len]; have := ML.out; omega)
            have rw1 := fun (i : Near [] W10) => (R10.out.only i.only (by simp)).cell (q + 1) (by rw [upL_len]; have := ML.out; omega)
            rw [upL_at, if_neg (by omega), E0.out, Int.add_zero] at rw0
            rw [upL_at, if_pos (by omega), E1.out] at rw1
            have s0 := fun (i : Near [] W10) => show i.W.cell? ⟨B9, 0, none⟩ = some (.slice (some ⟨gg, 0, none⟩) l.length cap') from (B10.out.only i.only (by simp)).cell 0
            have s1 := fun (i : Near [] W10) => show i.W.cell? ⟨B9, 1, none⟩ = some (.int .i64 T) from (B10.out.only i.only (by simp)).cell 1
            have s2 := fun (i : Near [] W10) => show i.W.cell? ⟨B9, 2, none⟩ = some (.int .i64 (U + 1)) from (B10.out.only i.only (by simp)).cell 2
            have CLR := Lib.hid (fun (i : Near [] W10) (hge : ls ≤ dq - 1) => show Calls Try.prog 18 #[.slice (some ⟨k, 0, none⟩) l.length cap, sysV (some ⟨gg, 0, none⟩) l.length cap' T (U + 1), .int .i64 x] i.W fun e w' => e = .returned (.bool false) ∧ Only [] i.W w' by
              have := Clear_any cap (HSW.out.newer (N.out i) NNW.out) cap' T (U + 1) x (R10.out.only i.only (by simp)).ints (by rw [upL_len, ML.out]; omega)
              rw [upL_len, ML.out] at this
              refine this.mono ?_
              rintro e w' ⟨rfl, h1⟩
              exact ⟨ret_bool (clrB_false fun hh => LAW.out hge hh.2.2.2), h1⟩)
            by_cases hge : ls ≤ dq - 1
            · have g1 : decide (m0 - (m1 + 1) < ls) = false := by simp; omega
              go_wp2
              refine wp_near [] (by kernel_rfl) (by kernel_rfl) ?_
              repeat (go_big_quiet_step ((go_at_call 18; with_reducible exact near_call _ (CLR.out _ hge))))
              refine wpQuiet_nil ?_
              intro i
              obtain ⟨wq, pq⟩ := i
              dsimp only
              have HQ := Lib.hid (OX.out.trans (pq.more (by simp)))
              clear s0 s1 s2 rw0 rw1 pq
              go_wp2
              go_ret
              exact ⟨(by first | rfl | exact ret_bool (by simp)), FIN.out _ HQ.out⟩
            · have g1 : decide (m0 - (m1 + 1) < ls) = true := by simp; omega
              go_wp2
              refine wp_near [] (by kernel_rfl) (by kernel_rfl) ?_
              repeat (go_big_quiet_step (fail))
              refine wpQuiet_nil ?_
              intro i
              obtain ⟨wq, pq⟩ := i
              dsimp only
              have HQ := Lib.hid (OX.out.trans (pq.more (by simp)))
              clear s0 s1 s2 rw0 rw1 pq
              go_wp2
              go_ret
              exact ⟨(by first | rfl | exact ret_bool (by simp)), FIN.out _ HQ.out⟩
  · obtain ⟨n0, hn0⟩ : ∃ n0, min X.length 6 = n0 := ⟨_, rfl⟩
    have HN0 := Lib.hid hn0
    have n2 : decide ((n0 : Int) < 2) = true := by simp; omega
    clear hn0
    go_enter Try.func4, Try.ntmps4
    go_wp2_with (first
      | (have _t := tk; go_at_call 12; refine (known_any _).mono ?_; rintro e w3 ⟨rfl, o3⟩)
      | (go_at_call 16; refine (staves_any A X cx none [] 0 HX.out (BytesAt.none_ _)).mono ?_; rintro e w1 ⟨v, l, rfl, hc⟩; obtain ⟨A1, c1, rfl⟩ := own_slice hc.own; rw [HN0.out])
      | (go_at_call 12; refine (known_any _).mono ?_; rintro e w2 ⟨rfl, o2⟩; have tk := True.intro))
    go_ret
    exact ⟨rfl, ((XO.out.trans hc.only).trans o2).trans o3⟩
end Go.Proofs.Yticpophdoiljfaa
