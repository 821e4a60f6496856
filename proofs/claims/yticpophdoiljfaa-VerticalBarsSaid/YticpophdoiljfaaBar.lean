/- DERIVED. Vertical: Bars. -/
import Derived.Test.YticpophdoiljfaaRun
import Derived.Test.YticpophdoiljfaaQr
import Derived.Test.YticpophdoiljfaaEqs
import Derived.RangeFuncBox
import Derived.Maps.AppendAt
namespace Go.Proofs.Yticpophdoiljfaa
open Go.RowKit Go.Shelf
attribute [local go_sem] Oper.semAt_some

theorem bar_info : (Try.prog.info? 58).map (fun i => (i.zero, i.size, i.bytes)) = some (some (.agg #[.int .i64 0, .int .i64 0]), 2, 16) := by kernel_rfl
set_option maxHeartbeats 1000000 in
theorem runs_in (n : Nat) (A : Option Addr) (len c : Nat) (w : World) :
    CallsIn Fence.wide n Try.prog 48 #[.slice A len c] w fun e w' => e = .returned (.func (.func 60) #[] #[.pointer (some ⟨w.heap.size, 0, none⟩)]) ∧ w' = w.alloc (.cells #[.slice A len c] 22) := by
  refine callsIn_of_wp Try.func48 rfl trivial ?_ rfl
  simp only [Try.ntmps48, List.size_toArray, List.length_cons, List.length_nil, Nat.reduceAdd, Nat.reduceSub, Array.replicate_succ, Array.replicate_zero, List.push_toArray, List.append_toArray, List.nil_append, List.cons_append]
  gi_wp2
  go_ret
  exact ⟨rfl, rfl⟩
theorem runs_stops (n : Nat) (hn : 1 ≤ n) (Bn n₀ : Nat) (A : Option Addr) (c : Nat) (ps : List Int) (h8 : ps.length ≤ 8) (w : World) (hbox : Boxed w Bn 22 (.slice A ps.length c)) (hP : PAt n₀ w A ps) (hn₀ : n₀ ≤ w.heap.size) :
    SeqStopsK Fence.wide n Try.prog 60 #[.pointer (some ⟨Bn, 0, none⟩)] (encR (N := ps.length)) (KeepR n₀ Bn) (fun xs => AllRuns ps (xs.map (·.1))) (fun _ => True) ps.length w := fun l J Jx W hW hJ _ hY h0 =>
  runs1_in n hn l Bn n₀ A c ps h8 J Jx (fun pre W q hj => hJ pre W _ none hj (grown_draw W q) (by simp)) hY W ((hW.block Bn hbox.lt).trans hbox) (hP.below (hW.mono hn₀)) h0

/-- What the loads of a round read. -/
def BodyS (Bo Bs : Nat) (v sv : Value) (p q : Addr) (x y : Int) (W : World) : Prop := W.cell? ⟨Bo, 0, none⟩ = some v ∧ W.cell? ⟨Bs, 0, none⟩ = some sv ∧ W.cell? p = some (.int .i64 x) ∧ W.cell? q = some (.int .i64 y)
/-- The bars of runs. -/
def barsOf (ms : List Int) (xs : List (Nat × Nat)) : List Value := xs.flatMap fun x => [.int .i64 (ms.getD x.1 0 + 128), .int .i64 (ms.getD x.2 0 - 128)]
theorem barsOf_snoc (ms : List Int) (xs : List (Nat × Nat)) (x : Nat × Nat) : barsOf ms (xs ++ [x]) = barsOf ms xs ++ [.int .i64 (ms.getD x.1 0 + 128), .int .i64 (ms.getD x.2 0 - 128)] := by simp [barsOf]
/-- What Bars gives. -/
def Barred (w : World) (ms ps : List Int) (e : Ending) (w' : World) : Prop :=
  ∃ (v : Value) (xs : List (Nat × Nat)) (B : Nat), e = .returned (.tuple #[v, .int .i64 0]) ∧ AllRuns ps xs ∧ w'.ownsRow B 58 2 v xs.length (barsOf ms xs) ∧ Only [] w w'

set_option maxRecDepth 100000 in
set_option maxHeartbeats 4000000 in
theorem Bars_ok {w : World} {A A' : Option Addr} {ms ps : List Int} (c c' : Nat) (t b : Int) (hI : IntsAt w A ms) (hl : ms.length ≤ 8) (hP : IntsAt w A' ps) (hpr : Proper ms t b) (hlp : ps.length = ms.length) (hs : Sorted ps) :
    Calls Try.prog 27 #[sysV A ms.length c t b, .slice A' ps.length c'] w fun e w' => Barred w ms ps e w' := by
  obtain ⟨i0, hi0, hz0, hz1, hz2⟩ := info_parts bar_info
  have X := Lib.hid ((Only.refl [] w).alloc (sysBox A ms.length c t b))
  have PE := Lib.hid (show partsE ms ps t b = 0 by rw [partsE, if_pos (properB_true hpr), if_pos hlp, if_pos (sortedB_true hs)])
  have VP := Lib.hid (vparts_any c c' t b (hI.only X.out (by simp)) hl (hP.only X.out (by simp)) (by omega))
  have BS := Lib.hid (Blk.new w 24 [.slice A ms.length c, .int .i64 t, .int .i64 b])
  have HI := Lib.hid (hI.only X.out (by simp))
  have HP := Lib.hid (hP.only X.out (by simp))
  have HPR := Lib.hid hpr
  have HLP := Lib.hid hlp
  have hz := hpr.pos
  have hl8 : ps.length ≤ 8 := by omega
  clear hI hP hpr hlp hs
  refine (callsIn_wide (n := 5)).1 ?_
  have hf1 : Fence.wide.fn 47 := trivial
  have hf2 : Fence.wide.fn 48 := trivial
  refine callsIn_of_wp_marks Try.func27 rfl trivial ?_ rfl
  simp only [Try.ntmps27, List.size_toArray, List.length_cons, List.length_nil, Nat.reduceAdd, Nat.reduceSub, Array.replicate_succ, Array.replicate_zero, List.push_toArray, List.append_toArray, List.nil_append, List.cons_append]
  gi_wp2_with (first
    | (gi_at_call 48; refine (runs_in _ _ _ _ _).mono ?_; rintro e w' ⟨rfl, rfl⟩)
    | (gi_at_call 47; refine (callsIn_wide.2 VP.out).mono ?_; rintro e w1 ⟨rfl, o1⟩; rw [PE.out]))
  have B1 := Lib.hid (BS.out.only o1 (by simp))
  have HI1 := Lib.hid (HI.out.only o1 (by simp))
  have HP1 := Lib.hid (show PAt w1.heap.size w1 A' ps from fun i hi => by
    obtain ⟨b', off, hA, h1, h2⟩ := (HP.out.only o1 (by simp)) i hi
    exact ⟨b', off, hA, h1, h2⟩)
  have X1 := Lib.hid (X.out.trans o1)
  have lw : w.heap.size < w1.heap.size := B1.out.lt
  clear o1 BS HI HP VP PE X
  have bO := Boxed.new w1 54 (.slice none 0 0)
  have bN := Boxed.new (w1.alloc (.cells #[.slice none 0 0] 54)) 22 (.slice A' ps.length c')
  rw [World.size_alloc] at bN
  have hB0 : Below w1.heap.size w1 ((w1.alloc (.cells #[.slice none 0 0] 54)).alloc (.cells #[.slice A' ps.length c'] 22)) := ((Below.refl _ w1).alloc (Nat.le_refl _) _).alloc (by simp) _
  refine wpIn_rangeFunc_ownG rfl (by omega) (gf := 60) (lb := #[.pointer (some ⟨w1.heap.size + 1, 0, none⟩)]) rfl trivial (enters_of Try.func60 (by kernel_rfl) rfl)
    (runs_stops (5 - 1) (by omega) (w1.heap.size + 1) w1.heap.size A' c' ps hl8 _ bN (HP1.out.below hB0) (by simp; omega)) (fun h k => h.trans k)
    (fun W l o o' h1 h2 h3 h4 => ⟨belowK_b (w := (w1.alloc (.cells #[.slice none 0 0] 54)).alloc (.cells #[.slice A' ps.length c'] 22)) (by simp; omega) W l o o' h1 h2 h3 h4, World.putObj_heap_other (by simp at h1; omega)⟩) (Below.refl _ _) (fun _ => rfl)
    (fun (pre : List (RunN ps.length)) W => (∃ v, Boxed W w1.heap.size 54 v ∧ W.ownsRow w1.heap.size 58 2 v pre.length (barsOf ms (pre.map (·.1))) ∧ True) ∧ (Below w1.heap.size w1 W ∧ Boxed W (w1.heap.size + 1) 22 (.slice A' ps.length c')))
    (fun _ _ _ => False)
    (OwnFrom.and (Own.from (holdsRow_own w1.heap.size w1.heap.size 54 58 2 (fun (pre : List (RunN ps.length)) => pre.length) (fun pre => barsOf ms (pre.map (·.1))) (fun _ _ => True)) _) (OwnFrom.and (ownFrom_below (Nat.le_refl _) (by simp; omega)) (Own.from (boxed_own (w1.heap.size + 1) 22 (fun _ => .slice A' ps.length c')) _)))
    (fun _ _ _ _ _ hs _ _ => hs)
    ⟨⟨_, bO.alloc _, World.ownsRow_nil _ _ _ _, trivial⟩, hB0, bN⟩
    (fun (x : RunN ps.length) => { tmps := #[sysV A ms.length c t b, .slice A' ps.length c', .pointer (some ⟨w.heap.size, 0, none⟩), undef, .slice none 0 0, .int .i64 0, .int .i64 0, .pointer (some ⟨w1.heap.size, 0, none⟩), .int .i64 (x.1.1 : Int), .int .i64 (x.1.2 : Int), .agg #[.slice A ms.length c, .int .i64 t, .int .i64 b], .slice A' ps.length c', .int .i64 0, .int .i64 0, .bool false, undef, .slice A' ps.length c', .func (.func 60) #[] #[.pointer (some ⟨w1.heap.size + 1, 0, none⟩)], .int .i64 (x.1.1 : Int), .int .i64 (x.1.2 : Int), undef, undef, undef, undef, undef, undef, undef, undef, undef, undef, undef, undef, undef, undef, undef, undef, undef], defers := [] }) ?assign ?body ?done ?stop
  case assign =>
    intro l x W K hK
    gi_wp2
    exact hK
  case body =>
    rintro l pre x W ⟨⟨v, hv, hrow, _⟩, hB, hbn⟩ hlt
    have hc := hv.cell
    obtain ⟨⟨f, g⟩, hf, hg⟩ := x
    simp only at hf hg
    have HRW := Lib.hid hrow
    have HV := Lib.hid hv
    have HBB := Lib.hid hB
    have HBN := Lib.hid hbn
    have lf : f < ms.length := by have := HLP.out; omega
    have lg : g < ms.length := by have := HLP.out; omega
    obtain ⟨bA, off, rfl, hbA, hm1⟩ := HI1.out f lf
    obtain ⟨bA2, off2, hA2, hbA2, hm2⟩ := HI1.out g lg
    simp only [Option.some.injEq, Addr.mk.injEq, and_true] at hA2
    obtain ⟨rfl, rfl⟩ := hA2
    have m1 : W.cell? ⟨bA, off + f, none⟩ = some (.int .i64 ms[f]) := (hB.cell (p := ⟨bA, off + f, none⟩) hbA).trans hm1
    have m2 : W.cell? ⟨bA, off + g, none⟩ = some (.int .i64 ms[g]) := (hB.cell (p := ⟨bA, off + g, none⟩) hbA).trans hm2
    have s0 : W.cell? ⟨w.heap.size, 0, none⟩ = some (.slice (some ⟨bA, off, none⟩) ms.length c) := (hB.cell (p := ⟨w.heap.size, 0, none⟩) lw).trans (B1.out.cell 0)
    have r1 := HPR.out.rng f lf
    have r2 := HPR.out.rng g lg
    have G1 := Lib.hid (getD_get lf)
    have G2 := Lib.hid (getD_get lg)
    generalize ms[f] = x1 at *
    generalize ms[g] = x2 at *
    have w1' : IntKind.i64.wrap (x1 + 128) = x1 + 128 := IntWalk.i64_in _ (by omega)
    have w2' : IntKind.i64.wrap (x2 - 128) = x2 - 128 := IntWalk.i64_in _ (by omega)
    have f0 : (0 : Int) ≤ (f : Int) := by omega
    have f1 : (f : Int) < (ms.length : Int) := by omega
    have g0 : (0 : Int) ≤ (g : Int) := by omega
    have g1 : (g : Int) < (ms.length : Int) := by omega
    clear hrow hv hB hbn hm1 hm2 r1 r2
    gi_wp2
    have hS : BodyS w1.heap.size w.heap.size v (.slice (some ⟨bA, off, none⟩) ms.length c) ⟨bA, off + f, none⟩ ⟨bA, off + g, none⟩ x1 x2 W.drew := ⟨hc, s0, m1, m2⟩
    haveI : Nonempty (HeldW (BodyS w1.heap.size w.heap.size v (.slice (some ⟨bA, off, none⟩) ms.length c) ⟨bA, off + f, none⟩ ⟨bA, off + g, none⟩ x1 x2)) := ⟨⟨_, hS⟩⟩
    have e0 := fun (i : HeldW (BodyS w1.heap.size w.heap.size v (.slice (some ⟨bA, off, none⟩) ms.length c) ⟨bA, off + f, none⟩ ⟨bA, off + g, none⟩ x1 x2)) => i.ok.1
    have e1 := fun (i : HeldW (BodyS w1.heap.size w.heap.size v (.slice (some ⟨bA, off, none⟩) ms.length c) ⟨bA, off + f, none⟩ ⟨bA, off + g, none⟩ x1 x2)) => i.ok.2.1
    have e2 := fun (i : HeldW (BodyS w1.heap.size w.heap.size v (.slice (some ⟨bA, off, none⟩) ms.length c) ⟨bA, off + f, none⟩ ⟨bA, off + g, none⟩ x1 x2)) => i.ok.2.2.1
    have e3 := fun (i : HeldW (BodyS w1.heap.size w.heap.size v (.slice (some ⟨bA, off, none⟩) ms.length c) ⟨bA, off + f, none⟩ ⟨bA, off + g, none⟩ x1 x2)) => i.ok.2.2.2
    refine wpIn_tail_held (BodyS w1.heap.size w.heap.size v (.slice (some ⟨bA, off, none⟩) ms.length c) ⟨bA, off + f, none⟩ ⟨bA, off + g, none⟩ x1 x2) 14 _ (by kernel_rfl) (by kernel_rfl) (by rfl) (by rfl) (fun _ _ d _ _ h => by cases d <;> exact h) rfl hS ?_
    simp only [List.take_succ_cons, List.take_zero, List.drop_succ_cons, List.drop_zero]
    repeat (go_big_quiet_step (fail))
    refine wpQuiet_nil ?_
    refine ⟨rfl, ?_⟩
    clear e0 e1 e2 e3
    go_simp
    have ca := World.block_lt_of_cell? W _ hc
    have cs := World.block_lt_of_cell? W _ s0
    have c1 := World.block_lt_of_cell? W _ m1
    have c2 := World.block_lt_of_cell? W _ m2
    refine ⟨⟨(World.cell?_alloc_lt W _ _ ca).trans hc, (World.cell?_alloc_lt W _ _ cs).trans s0, (World.cell?_alloc_lt W _ _ c1).trans m1, (World.cell?_alloc_lt W _ _ c2).trans m2⟩, ?_⟩
    have hv2 : Boxed W.drew w1.heap.size 54 v := HV.out
    have hrow2 : W.drew.ownsRow w1.heap.size 58 2 v pre.length (barsOf ms (pre.map (·.1))) := HRW.out
    have hrow3 : (W.alloc (.cells #[.int .i64 (x1 + 128), .int .i64 (x2 - 128)] 58)).drew.ownsRow w1.heap.size 58 2 v pre.length (barsOf ms (pre.map (·.1))) := HRW.out.alloc _
    have hnew : ∀ j u, ([Value.int .i64 (x1 + 128), Value.int .i64 (x2 - 128)] : List Value)[j]? = some u → (W.alloc (.cells #[.int .i64 (x1 + 128), .int .i64 (x2 - 128)] 58)).drew.cell? ((⟨W.heap.size, 0, none⟩ : Addr).add j) = some u := World.news_of_block (heap_alloc_new W (.cells #[.int .i64 (x1 + 128), .int .i64 (x2 - 128)] 58))
    have hsz : w1.heap.size ≤ W.drew.heap.size := HBB.out.size
    have hsz2 : w1.heap.size ≤ (W.alloc (.cells #[.int .i64 (x1 + 128), .int .i64 (x2 - 128)] 58)).drew.heap.size := by have := HBB.out.size; show _ ≤ (W.alloc (.cells #[.int .i64 (x1 + 128), .int .i64 (x2 - 128)] 58)).heap.size; simp; omega
    have KD := Lib.hid (show KeepsOthers W W.drew from ⟨Nat.le_refl _, fun _ _ h _ => h⟩)
    have BD := Lib.hid (show Below w1.heap.size W W.drew from ⟨rfl, rfl, rfl, Nat.le_refl _, fun _ _ => rfl⟩)
    have hbn2 : Boxed W.drew (w1.heap.size + 1) 22 (.slice A' ps.length c') := HBN.out
    have HNEW := Lib.hid hnew
    clear m1 m2 s0 hc ca cs c1 c2 hnew
    gi_wp2_with (gi_at_builtin; refine wpListIn_append_own _ rfl _ _ 54 rfl w1.heap.size 58 i0 (.agg #[.int .i64 0, .int .i64 0]) 2 16 Try.underlying54 hi0 hz0 hz1 hz2 rfl (by decide) _ _ _ rfl hrow3 ⟨W.heap.size, 0, none⟩ 1 1 [.int .i64 (x1 + 128), .int .i64 (x2 - 128)] rfl rfl HNEW.out (by simp [Value.oneCell']) (by unfold maxLen; omega) (by omega) hsz2 ?_; intro v' w2 hown' hgrow _; obtain ⟨g', cap', rfl⟩ := ownsRow_succ hown'; have hgrow2 : (W.drew.alloc (.cells #[.int .i64 (x1 + 128), .int .i64 (x2 - 128)] 58)).grownBy w2 v.ownBlock := hgrow; have hbn3 := (hbn2.alloc (.cells #[.int .i64 (x1 + 128), .int .i64 (x2 - 128)] 58)).kept hgrow2 (hbn2.not_row (by decide) hrow2); obtain ⟨hv1, hv3, hr2, hk2, hb2⟩ := hv2.appended (by decide) hrow2 hsz (Nat.le_refl _) hown' hgrow2; have hc1 := hv1.cell; have hf1 := hv1.frozen)
    have hnb : w1.heap.size + 1 ≠ w1.heap.size := by omega
    have hbn4 := hbn3.other hnb (.slice (some ⟨g', 0, none⟩) (pre.length + 1) cap')
    refine ⟨(KD.out.trans hk2).from _, ⟨BD.out.trans hb2, hbn4.trans HBN.out.symm⟩, ⟨_, hv3, ?_, trivial⟩, HBB.out.trans (BD.out.trans hb2), hbn4⟩
    rw [List.map_append, List.map_singleton, barsOf_snoc, G1.out, G2.out, List.length_append]
    exact hr2
  case done =>
    rintro D ys W hD hAll ⟨⟨v, hv, hrow, _⟩, hB, _⟩ hK
    have hc := hv.cell
    gi_wp2
    refine ⟨by simp, .inl ⟨_, _, rfl, run_takeDeferred hK, ?_⟩⟩
    refine ⟨_, results_tmp2 rfl _ _ _, v, ys.map (·.1), w1.heap.size, rfl, hAll, ?_, ?_⟩
    · rw [List.length_map]
      exact ownsRow_putObj hrow _ hK rfl
    · exact X1.out.trans (Only.of_below (hB.trans (belowK_b (w := w1) (Nat.le_refl _) W D _ _ (by simp at hD; omega) hK rfl rfl)) _)
  case stop =>
    rintro D cc pre W _ _ h _
    exact h.elim

set_option maxRecDepth 100000 in
set_option maxHeartbeats 4000000 in
theorem Bars_err {w : World} {A A' : Option Addr} {ms ps : List Int} (c c' : Nat) (t b : Int) (hI : IntsAt w A ms) (hl : ms.length ≤ 8) (hP : IntsAt w A' ps) (hpl : ps.length ≤ 8) (he : partsE ms ps t b ≠ 0) :
    Calls Try.prog 27 #[sysV A ms.length c t b, .slice A' ps.length c'] w fun e w' => e = .returned (.tuple #[.slice none 0 0, .int .i64 (partsE ms ps t b)]) ∧ Only [] w w' := by
  have X := Lib.hid ((Only.refl [] w).alloc (sysBox A ms.length c t b))
  have VP := Lib.hid (vparts_any c c' t b (hI.only X.out (by simp)) hl (hP.only X.out (by simp)) hpl)
  obtain ⟨ev, hev⟩ : ∃ ev, partsE ms ps t b = ev := ⟨_, rfl⟩
  have HE := Lib.hid hev
  rw [hev] at he ⊢
  have e1 : (ev != 0) = true := by simpa using he
  clear hI hP hev he
  refine (callsIn_wide (n := 5)).1 ?_
  have hf1 : Fence.wide.fn 47 := trivial
  refine callsIn_of_wp_marks Try.func27 rfl trivial ?_ rfl
  simp only [Try.ntmps27, List.size_toArray, List.length_cons, List.length_nil, Nat.reduceAdd, Nat.reduceSub, Array.replicate_succ, Array.replicate_zero, List.push_toArray, List.append_toArray, List.nil_append, List.cons_append]
  gi_wp2_with (gi_at_call 47; refine (callsIn_wide.2 VP.out).mono ?_; rintro e w1 ⟨rfl, o1⟩; rw [HE.out])
  exact ⟨_, results_tmp2 rfl _ _ _, rfl, X.out.trans o1⟩
end Go.Proofs.Yticpophdoiljfaa
