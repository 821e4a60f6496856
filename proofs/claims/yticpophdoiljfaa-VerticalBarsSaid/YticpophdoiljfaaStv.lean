/- DERIVED. Vertical: staves in memory; the statements' staves. -/
import Derived.Test.YticpophdoiljfaaVp
import Derived.Deep.AppendLies
import Derived.Deep.RegionHeld3
import Derived.Deep.DrawnRows
namespace Go.Proofs.Yticpophdoiljfaa
open Go.RowKit
attribute [local go_sem ↓] Go.wp_at_zero Go.wp_at_succ

theorem Sky.drew {w : World} {s g : Nat} {side : Int} {h : List Int} (hs : Sky w s g side h) : Sky w.drew s g side h := ⟨hs.head, hs.row, hs.sides, hs.pos, hs.few, hs.low⟩

/-- A staff: where its skylines lie, and its values. -/
structure StaffR where
  sa : Nat
  ga : Nat
  sb : Nat
  gb : Nat
  v : SV
def StaffR.cells (r : StaffR) : List Value := [.pointer (some ⟨r.sa, 0, none⟩), .pointer (some ⟨r.sb, 0, none⟩), .int .i64 r.v.part]
def rowOf (l : List StaffR) : List Value := l.flatMap StaffR.cells
theorem rowOf_len : ∀ l : List StaffR, (rowOf l).length = l.length * 3
  | [] => rfl
  | r :: l => by
    have := rowOf_len l
    simp only [rowOf, List.flatMap_cons, List.length_append, StaffR.cells, List.length_cons, List.length_nil] at this ⊢
    omega
theorem rowOf_snoc (l : List StaffR) (r : StaffR) : rowOf (l ++ [r]) = rowOf l ++ r.cells := by simp [rowOf]
theorem rowOf_get : ∀ (l : List StaffR) (i j : Nat) (hi : i < l.length), j < 3 → (rowOf l)[i * 3 + j]? = (l[i]).cells[j]?
  | r :: l, 0, j, _, hj => by
    simp only [rowOf, List.flatMap_cons, Nat.zero_mul, Nat.zero_add, List.getElem_cons_zero]
    rw [List.getElem?_append_left (by simp [StaffR.cells]; omega)]
  | r :: l, i + 1, j, hi, hj => by
    have h := rowOf_get l i j (by simpa using hi) hj
    simp only [rowOf, List.flatMap_cons, List.getElem_cons_succ] at h ⊢
    rw [List.getElem?_append_right (by simp [StaffR.cells]; omega), ← h]
    congr 1
    simp [StaffR.cells]
    omega

/-- A staff's skylines, of n columns, are there, in blocks from B on. -/
structure StaffOK (w : World) (B n : Nat) (r : StaffR) : Prop where
  above : Sky w r.sa r.ga 1 r.v.ha
  below : Sky w r.sb r.gb (-1) r.v.hb
  la : r.v.ha.length = n
  lb : r.v.hb.length = n
  new : B ≤ r.sa ∧ B ≤ r.ga ∧ B ≤ r.sb ∧ B ≤ r.gb
theorem StaffOK.only {w w' : World} {B n : Nat} {r : StaffR} {S : List Nat} (h : StaffOK w B n r) (ho : Only S w w') (h1 : r.sa ∉ S) (h2 : r.ga ∉ S) (h3 : r.sb ∉ S) (h4 : r.gb ∉ S) : StaffOK w' B n r :=
  ⟨h.above.only ho h1 h2, h.below.only ho h3 h4, h.la, h.lb, h.new⟩
theorem StaffOK.newer {w w' : World} {B n : Nat} {r : StaffR} {S : List Nat} (h : StaffOK w B n r) (ho : Only S w w') (hS : ∀ k ∈ S, w.heap.size ≤ k) : StaffOK w' B n r := by
  have l1 := h.above.head.lt
  have l2 := h.above.row.lt
  have l3 := h.below.head.lt
  have l4 := h.below.row.lt
  exact h.only ho (fun e => by have := hS _ e; omega) (fun e => by have := hS _ e; omega) (fun e => by have := hS _ e; omega) (fun e => by have := hS _ e; omega)

/-- The columns that came in: for each staff a list of pairs. -/
structure ColsAt (w : World) (A : Option Addr) (X : List (List (Int × Int))) : Prop where
  at_ : ∀ i (hi : i < X.length), ∃ b off Ai ci, A = some ⟨b, off, none⟩ ∧ b < w.heap.size ∧ w.cell? ⟨b, off + i, none⟩ = some (.slice Ai X[i].length ci) ∧
    ∀ j (hj : j < X[i].length), ∃ b' off', Ai = some ⟨b', off', none⟩ ∧ b' < w.heap.size ∧ w.cell? ⟨b', off' + j * 2, none⟩ = some (.int .i8 X[i][j].1) ∧ w.cell? ⟨b', off' + j * 2 + 1, none⟩ = some (.int .i8 X[i][j].2)
  rng : ∀ i (hi : i < X.length), ∀ p ∈ X[i], (-128 ≤ p.1 ∧ p.1 ≤ 127) ∧ (-128 ≤ p.2 ∧ p.2 ≤ 127)
  few : X.length ≤ 9223372036854775807
  fews : ∀ i (hi : i < X.length), X[i].length ≤ 9223372036854775807
theorem ColsAt.only {w w' : World} {S : List Nat} {A : Option Addr} {X : List (List (Int × Int))} (h : ColsAt w A X) (ho : Only S w w') (hS : ∀ k ∈ S, w.heap.size ≤ k) : ColsAt w' A X := by
  refine ⟨fun i hi => ?_, h.rng, h.few, h.fews⟩
  obtain ⟨b, off, Ai, ci, hA, hb, hc, hj⟩ := h.at_ i hi
  refine ⟨b, off, Ai, ci, hA, Nat.lt_of_lt_of_le hb ho.size, (ho.cell (p := ⟨b, off + i, none⟩) hb (fun e => absurd hb (Nat.not_lt.2 (hS _ e)))).trans hc, fun j hlt => ?_⟩
  obtain ⟨b', off', hA', hb', h1, h2⟩ := hj j hlt
  exact ⟨b', off', hA', Nat.lt_of_lt_of_le hb' ho.size, (ho.cell (p := ⟨b', off' + j * 2, none⟩) hb' (fun e => absurd hb' (Nat.not_lt.2 (hS _ e)))).trans h1, (ho.cell (p := ⟨b', off' + j * 2 + 1, none⟩) hb' (fun e => absurd hb' (Nat.not_lt.2 (hS _ e)))).trans h2⟩

/-- Bytes that came in. -/
structure BytesAt (w : World) (A : Option Addr) (P : List Int) : Prop where
  at_ : ∀ i (hi : i < P.length), ∃ b off, A = some ⟨b, off, none⟩ ∧ b < w.heap.size ∧ w.cell? ⟨b, off + i, none⟩ = some (.int .u8 P[i])
  rng : ∀ x ∈ P, 0 ≤ x ∧ x ≤ 255
  few : P.length ≤ 9223372036854775807
theorem BytesAt.only {w w' : World} {S : List Nat} {A : Option Addr} {P : List Int} (h : BytesAt w A P) (ho : Only S w w') (hS : ∀ k ∈ S, w.heap.size ≤ k) : BytesAt w' A P := by
  refine ⟨fun i hi => ?_, h.rng, h.few⟩
  obtain ⟨b, off, hA, hb, hc⟩ := h.at_ i hi
  exact ⟨b, off, hA, Nat.lt_of_lt_of_le hb ho.size, (ho.cell (p := ⟨b, off + i, none⟩) hb (fun e => absurd hb (Nat.not_lt.2 (hS _ e)))).trans hc⟩
theorem BytesAt.none_ (w : World) : BytesAt w none [] := ⟨fun i hi => absurd hi (by simp), by simp, by simp⟩

/-- The staves while they are collected. -/
structure Coll (W wr : World) (X : List (List (Int × Int))) (P : List Int) (j : Nat) (v : Value) (l : List StaffR) : Prop where
  len : l.length = j
  vals : l.map StaffR.v = (List.range j).map (svOf X P)
  own : wr.ownsRow W.heap.size 50 3 v j (rowOf l)
  ok : ∀ r ∈ l, StaffOK wr W.heap.size (ncol X) r
  only : Only [] W wr

theorem staff_info : (Try.prog.info? 50).map (fun i => (i.zero, i.size, i.bytes)) = some (some (.agg #[.pointer none, .pointer none, .int .i64 0]), 3, 24) := by kernel_rfl

theorem own_row {w : World} {base n size k cap c0 : Nat} {e : TypeId} {xs : List Value} (h : w.ownsRow base e size (.slice (some ⟨k, c0, none⟩) n cap) n xs) : ∃ cur, w.heap[k]? = some (.cells cur e (0, 0)) ∧ base ≤ k := by
  rcases h.2 with ⟨h, _⟩ | ⟨k', cap', cur, he, hb, hg, _⟩
  · cases h
  · simp only [Value.slice.injEq, Option.some.injEq, Addr.mk.injEq] at he
    obtain ⟨⟨rfl, -, -⟩, -, -⟩ := he
    exact ⟨cur, hg, hb⟩

theorem own_only {w w' : World} {base n size : Nat} {e : TypeId} {v : Value} {xs : List Value} {S : List Nat} (h : w.ownsRow base e size v n xs) (ho : Only S w w') (hS : ∀ k, v.ownBlock = some k → k ∉ S) : w'.ownsRow base e size v n xs := by
  refine ⟨h.1, ?_⟩
  rcases h.2 with hn | ⟨g, cap, cur, rfl, hb, hg, hr⟩
  · exact .inl hn
  · exact .inr ⟨g, cap, cur, rfl, hb, (ho.block g (Array.getElem?_eq_some_iff.1 hg).1 (hS g rfl)).trans hg, hr⟩

theorem own_far {w : World} {base n size g : Nat} {e t : TypeId} {v : Value} {xs cs : List Value} (h : w.ownsRow base e size v n xs) (hb : Blk w g t cs) (hne : t ≠ e) : v.ownBlock ≠ some g := by
  rcases h.2 with ⟨rfl, _⟩ | ⟨k', cap', cur, rfl, _, hg, _⟩
  · simp [Value.ownBlock]
  · intro he
    simp only [Value.ownBlock, Option.some.injEq] at he
    subst he
    unfold Blk at hb
    rw [hg] at hb
    simp at hb
    exact hne hb.2.symm
theorem Sky.grow {w w' : World} {s g : Nat} {side : Int} {h : List Int} {row : Option Nat} (hs : Sky w s g side h) (hg : w.grownBy w' row) (h1 : row ≠ some s) (h2 : row ≠ some g) : Sky w' s g side h :=
  ⟨(hg.block s hs.head.lt (Ne.symm h1)).trans hs.head, (hg.block g hs.row.lt (Ne.symm h2)).trans hs.row, hs.sides, hs.pos, hs.few, hs.low⟩
theorem StaffOK.grow {w w' : World} {B n base j : Nat} {r : StaffR} {v : Value} {xs : List Value} (h : StaffOK w B n r) (hown : w.ownsRow base 50 3 v j xs) (hg : w.grownBy w' v.ownBlock) : StaffOK w' B n r :=
  ⟨h.above.grow hg (own_far hown h.above.head (by decide)) (own_far hown h.above.row (by decide)), h.below.grow hg (own_far hown h.below.head (by decide)) (own_far hown h.below.row (by decide)), h.la, h.lb, h.new⟩

/-- One staff more. -/
theorem Coll.step {W wr w3 w5 : World} {X : List (List (Int × Int))} {P : List Int} {j gg cap : Nat} {v : Value} {l : List StaffR} {S : List Nat} {r : StaffR} (hC : Coll W wr X P j v l) (ho : Only S wr w3) (hS : ∀ k ∈ S, wr.heap.size ≤ k)
    (hr : StaffOK w3 W.heap.size (ncol X) r) (hv : r.v = svOf X P j) {o : Obj}
    (hown : w5.ownsRow W.heap.size 50 3 (.slice (some ⟨gg, 0, none⟩) (j + 1) cap) (j + 1) (rowOf l ++ r.cells)) (hpre : (w3.alloc o).ownsRow W.heap.size 50 3 v j (rowOf l)) (hg : (w3.alloc o).grownBy w5 v.ownBlock) :
    Coll W w5 X P (j + 1) (.slice (some ⟨gg, 0, none⟩) (j + 1) cap) (l ++ [r]) := by
  have h1 : Only [] W w3 := ((hC.only.more (T := S) (by simp)).trans ho).less fun k hk hl => by
    have := hS k hk
    have := hC.only.size
    omega
  have hmk : ∀ q : StaffR, StaffOK w3 W.heap.size (ncol X) q → StaffOK w5 W.heap.size (ncol X) q := fun q hq => (hq.newer ((Only.refl [] w3).alloc o) (by simp)).grow hpre hg
  refine ⟨by simp [hC.len], ?_, ?_, ?_, (h1.alloc o).grown hg fun k hk => .inr ?_⟩
  · rw [List.map_append, hC.vals, List.range_succ, List.map_append, List.map_singleton, List.map_singleton, hv]
  · rw [rowOf_snoc]
    exact hown
  · intro q hq
    rcases List.mem_append.1 hq with h | h
    · exact hmk q ((hC.ok q h).newer ho hS)
    · rw [List.mem_singleton.1 h]
      exact hmk r hr
  · exact (hpre.lt k hk).1

theorem raiseH_one {h : List Int} {k : Nat} {v : Int} (hk : k < h.length) (hv : 0 ≤ v ∧ v ≤ 8128) : raiseH 1 h k k v = raised h k (k + 1) v := by
  rw [raiseH, if_pos ⟨colErr_self hk, okB_iff.2 (by omega)⟩]
  simp
theorem raiseH_neg {h : List Int} {k : Nat} {v : Int} (hk : k < h.length) (hv : 0 ≤ v ∧ v ≤ 8128) : raiseH (-1) h k k (-v) = raised h k (k + 1) v := by
  rw [raiseH, if_pos ⟨colErr_self hk, okB_iff.2 (by omega)⟩]
  simp

theorem partTo_step {P : List Int} {j : Nat} {d : Int} (h : (j = 0 ∧ d = 0) ∨ (0 < j ∧ d = P.getD j 0)) : partTo P (j - 1) + d = partTo P (j + 1 - 1) := by
  rcases h with ⟨rfl, rfl⟩ | ⟨h, rfl⟩
  · simp [partTo]
  · obtain ⟨i, rfl⟩ : ∃ i, j = i + 1 := ⟨j - 1, by omega⟩
    rfl

/-- What staves gives. -/
def Staved (w : World) (X : List (List (Int × Int))) (P : List Int) (e : Ending) (w' : World) : Prop :=
  ∃ (v : Value) (l : List StaffR), e = .returned v ∧ Coll w w' X P (min X.length 6) v l

/-- A column's two heights in the walk's spelling. -/
theorem sp_of {x m : Int} (h : (if 0 < x then x else 0) = m) : sp64 x = 64 * m := by
  unfold sp64
  split at h <;> omega

set_option maxRecDepth 20000 in
set_option maxHeartbeats 4000000 in
theorem staves_any {w : World} (A : Option Addr) (X : List (List (Int × Int))) (cx : Nat) (B : Option Addr) (P : List Int) (cp : Nat) (hX : ColsAt w A X) (hP : BytesAt w B P) :
    Calls Try.prog 16 #[.slice A X.length cx, .slice B P.length cp] w fun e w' => Staved w X P e w' := by
  obtain ⟨i0, hi0, hz0, hz1, hz2⟩ := info_parts staff_info
  have hxl := hX.few
  have hpl := hP.few
  have HX := Lib.hid hX
  have HP := Lib.hid hP
  obtain ⟨n, hn⟩ : ∃ n, ncol X = n := ⟨_, rfl⟩
  have HN := Lib.hid hn
  have hn1 : 1 ≤ n := by have := ncol_range X; omega
  have hn8 : n ≤ 8 := by have := ncol_range X; omega
  clear hX hP hn
  go_enter Try.func16, Try.ntmps16
  go_wp2
  go_loopw [5, 6, 7] (fun o p i wr => ∃ (j : Nat) (v : Value) (l : List StaffR), j ≤ X.length ∧ j ≤ 6 ∧ i = .int .i64 j ∧ p = .int .i64 (partTo P (j - 1)) ∧ o = v ∧ Coll w wr X P j v l) (fun _ _ i _ => 6 - (intOf i).toNat)
  case atStart => exact ⟨0, _, [], by omega, by omega, rfl, rfl, rfl, ⟨rfl, rfl, World.ownsRow_nil _ _ _ _, by simp, Only.refl _ _⟩⟩
  case round =>
    obtain ⟨j, v, l, hj, hj6, rfl, rfl, rfl, hC⟩ := hrel
    by_cases hlt : j < X.length
    · by_cases hlt6 : j < 6
      · have HC := Lib.hid hC
        have hX1 := HX.out.only hC.only (by simp)
        obtain ⟨b, off, A0, c0, rfl, hb0, hc0, -⟩ := hX1.at_ 0 (by omega)
        have j0 : (0 : Int) ≤ (j : Int) := by omega
        have j1 : (j : Int) < (X.length : Int) := by omega
        have x0 : (0 : Int) < (X.length : Int) := by omega
        have hl0 := hX1.fews 0 (by omega)
        simp only [Nat.add_zero] at hc0
        obtain ⟨m1, hm1⟩ : ∃ m1, (if ((X[0]).length : Int) < 8 then ((X[0]).length : Int) else 8) = m1 := ⟨_, rfl⟩
        have hm2 : (if 1 < m1 then m1 else 1) = (n : Int) := by
          have h1 : ncol X = n := HN.out
          have h2 : X.headD [] = X[0] := by
            cases X with
            | nil => simp at hlt
            | cons a l => rfl
          unfold ncol at h1
          rw [h2] at h1
          split at hm1 <;> split <;> omega
        clear hX1 hC
        go_wp2_with (first
          | (have _t := SK1; go_at_call 33; refine (new_ok (-1) n 0 (.inr rfl) hn1 (by omega) (by omega) _).mono ?_; rintro e w2 ⟨sb, gb, rfl, hsb, hgb, SK2, o2⟩)
          | (go_at_call 33; refine (new_ok 1 n 0 (.inl rfl) hn1 (by omega) (by omega) _).mono ?_; rintro e w1 ⟨sa, ga, rfl, hsa, hga, SK1, o1⟩))
        have l1 := SK1.head.lt
        have l2 := SK1.row.lt
        have SA2 := SK1.only o2 (by simp) (by simp)
        have O2 : Only [] wr w2 := o1.trans o2
        have NE := Lib.hid (show ga ≠ sb ∧ ga ≠ gb ∧ sa ≠ gb ∧ gb ≠ sa ∧ ga ≠ sa ∧ gb ≠ ga ∧ gb ≠ sb from ⟨by omega, by omega, by omega, by omega, SK1.ne.symm, by omega, SK2.ne.symm⟩)
        have HSA := Lib.hid hsa
        have HGA := Lib.hid hga
        have HSB : Hid (wr.heap.size ≤ sb) := Lib.hid (by have := o1.size; omega)
        have HGB : Hid (wr.heap.size ≤ gb) := Lib.hid (by have := o1.size; omega)
        have hX2 := Lib.hid (HX.out.only HC.out.only (by simp))
        obtain ⟨us, has⟩ : ∃ us, (X[j]).map (·.1) = us := ⟨_, rfl⟩
        obtain ⟨ds, hbs⟩ : ∃ ds, (X[j]).map (·.2) = ds := ⟨_, rfl⟩
        have la : us.length = (X[j]).length := by rw [← has, List.length_map]
        have lb : ds.length = (X[j]).length := by rw [← hbs, List.length_map]
        have HAS := Lib.hid has
        have HBS := Lib.hid hbs
        have HLA := Lib.hid la
        have HLB := Lib.hid lb
        have START := Lib.hid (show Sky w2 sa ga 1 (colsTo us n 0) ∧ Sky w2 sb gb (-1) (colsTo ds n 0) from ⟨by rw [colsTo_zero]; simpa [newH] using SA2, by rw [colsTo_zero]; simpa [newH] using SK2⟩)
        have hlj := hX2.out.fews j hlt
        have SVO : Hid (svOf X P j = ⟨colsTo us n n, colsTo ds n n, partTo P j⟩) := Lib.hid (by
          have e : X.getD j [] = X[j] := by simp [List.getD, hlt]
          rw [svOf, e, has, hbs, HN.out])
        clear SK1 SK2 SA2 _t o1 o2 l1 l2 hsa hga hsb hgb has hbs la lb hm1 hm2 hc0 hb0 hl0
        obtain ⟨wo, rfl⟩ : ∃ wo : World, wo = wr := ⟨_, rfl⟩
        go_loopw [13] (fun c w3 => ∃ k : Nat, k ≤ n ∧ k ≤ (X[j]).length ∧ c = .int .i64 k ∧ Sky w3 sa ga 1 (colsTo us n k) ∧ Sky w3 sb gb (-1) (colsTo ds n k) ∧ Only [ga, gb] w2 w3) (fun c _ => n - (intOf c).toNat)
        case atStart => exact ⟨0, by omega, by omega, rfl, START.out.1, START.out.2, Only.refl _ _⟩
        case round =>
          obtain ⟨k, hk, hkl, rfl, SA, SB, O3⟩ := hrel
          clear START
          have O4 := (O2.more (T := [ga, gb]) (by simp)).trans O3
          have FAR := Lib.hid (fun (q : Nat) (hq : q < wo.heap.size) => show q ∉ [ga, gb] from fun hm => by
            have h1 := HGA.out
            have h2 := HGB.out
            simp at hm
            omega)
          obtain ⟨b1, off1, Ai, ci, hA1, hb1, hc1, hj1⟩ := hX2.out.at_ j hlt
          obtain ⟨rfl, rfl⟩ : b = b1 ∧ off = off1 := by simpa using hA1
          clear hA1
          have T0 := Lib.hid (fun W (hW : Only [ga, gb] wo W) => (hW.cell (p := ⟨b, off + j, none⟩) hb1 (FAR.out b hb1)).trans hc1)
          have t0 := T0.out wr O4
          have k0 : (0 : Int) ≤ (k : Int) := by omega
          by_cases hkn : k < n
          · by_cases hkx : k < (X[j]).length
            · obtain ⟨b2, off2, rfl, hb2, y0, y1⟩ := hj1 k hkx
              have k1 : (k : Int) < ((X[j]).length : Int) := by omega
              obtain ⟨⟨r1, r2⟩, r3, r4⟩ := hX2.out.rng j hlt _ (List.getElem_mem hkx)
              have G1 : Hid (us.getD k 0 = X[j][k].1) := Lib.hid (by rw [← HAS.out]; simp [List.getD, hkx])
              have G2 : Hid (ds.getD k 0 = X[j][k].2) := Lib.hid (by rw [← HBS.out]; simp [List.getD, hkx])
              clear hj1 hc1
              generalize X[j][k].1 = p1 at *
              generalize X[j][k].2 = p2 at *
              have w1' : IntKind.i64.wrap p1 = p1 := IntWalk.i64_in _ (by omega)
              have w2' : IntKind.i64.wrap p2 = p2 := IntWalk.i64_in _ (by omega)
              obtain ⟨q1, hq1⟩ : ∃ q1, (if 0 < p1 then p1 else 0) = q1 := ⟨_, rfl⟩
              obtain ⟨q2, hq2⟩ : ∃ q2, (if 0 < p2 then p2 else 0) = q2 := ⟨_, rfl⟩
              have e1 : 0 ≤ q1 ∧ q1 ≤ 127 := by split at hq1 <;> omega
              have e2 : 0 ≤ q2 ∧ q2 ≤ 127 := by split at hq2 <;> omega
              have T1 := Lib.hid (fun W (hW : Only [ga, gb] wo W) => (hW.cell (p := ⟨b2, off2 + k * 2, none⟩) hb2 (FAR.out b2 hb2)).trans y0)
              have T2 := Lib.hid (fun W (hW : Only [ga, gb] wo W) => (hW.cell (p := ⟨b2, off2 + k * 2 + 1, none⟩) hb2 (FAR.out b2 hb2)).trans y1)
              have t1 := T1.out wr O4
              clear y0 y1 hb1 hb2
              go_wp2_with (first
                | (have _s := SA5; go_at_call 36; refine (Raise_any SB5 _ _ _).mono ?_; rintro e w6 ⟨rfl, SB6, o6⟩)
                | (go_at_call 36; refine (Raise_any SA _ _ _).mono ?_; rintro e w5 ⟨rfl, SA5, o5⟩; have SB5 := SB.only o5 (by simpa using NE.out.1.symm) (by simpa using NE.out.2.1.symm); have O5 := O4.trans (o5.more (T := [ga, gb]) (by simp)); have s0 := T0.out w5 O5; have s2 := T2.out w5 O5))
              go_roundw
              case rel =>
                refine ⟨k + 1, by omega, by omega, by go_num, ?_, ?_, O3.trans ((o5.more (T := [ga, gb]) (by simp)).trans (o6.more (T := [ga, gb]) (by simp)))⟩
                · have h := SA5.only o6 (by simpa using NE.out.2.2.1) (by simpa using NE.out.2.1)
                  rw [raiseH_one (by rw [colsTo_len]; exact hkn) (by omega), ← sp_of hq1, ← G1.out, colsTo_succ _ _ _ hkn] at h
                  exact h
                · have h := SB6
                  rw [show (-64 * q2 : Int) = -(64 * q2) by omega, raiseH_neg (by rw [colsTo_len]; exact hkn) (by omega), ← sp_of hq2, ← G2.out, colsTo_succ _ _ _ hkn] at h
                  exact h
              case measure => simp [intOf]; omega
            · -- TAILS
              clear hj1 hc1
              have SA' : Sky wr sa ga 1 (colsTo us n n) := by rw [← colsTo_end us n k (by have := HLA.out; omega)]; exact SA
              have SB' : Sky wr sb gb (-1) (colsTo ds n n) := by rw [← colsTo_end ds n k (by have := HLB.out; omega)]; exact SB
              have HS4 := Lib.hid (show ∀ q ∈ [ga, gb], wo.heap.size ≤ q from fun q hq => by have h1 := HGA.out; have h2 := HGB.out; simp at hq; omega)
              have hown := own_only HC.out.own O4 (fun q hq hm => by have h1 := (HC.out.own.lt q hq).2; have h2 := HS4.out q hm; omega)
              have HNEW := Lib.hid (show w.heap.size ≤ sa ∧ w.heap.size ≤ ga ∧ w.heap.size ≤ sb ∧ w.heap.size ≤ gb from by have h0 := HC.out.only.size; have h1 := HSA.out; have h2 := HGA.out; have h3 := HSB.out; have h4 := HGB.out; omega)
              have hsz1 := HC.out.only.size
              have hsz2 := O4.size
              have hpr := partTo_range HP.out.rng (j - 1)
              obtain ⟨pv, hpv⟩ : ∃ pv, partTo P (j - 1) = pv := ⟨_, rfl⟩
              rw [hpv] at hpr ⊢
              have HPV := Lib.hid hpv
              have hpr' : 0 ≤ pv ∧ pv ≤ 100000 := by omega
              clear hpv hpr SA SB
              by_cases hj0 : 0 < j
              · by_cases hjP : j < P.length
                · obtain ⟨b3, off3, rfl, hb3, hc3⟩ := HP.out.at_ j hjP
                  have s3 : wr.cell? ⟨b3, off3 + j, none⟩ = some (.int .u8 P[j]) := (((HC.out.only.more (T := [ga, gb]) (by simp)).trans O4).cell (p := ⟨b3, off3 + j, none⟩) hb3 (fun hm => by have h0 := HS4.out _ hm; have h5 : b3 < w.heap.size := hb3; simp only at h0; omega)).trans hc3
                  have j2 : (j : Int) < (P.length : Int) := by omega
                  have hr3 := HP.out.rng P[j] (List.getElem_mem hjP)
                  have GD : Hid (P.getD j 0 = P[j]) := Lib.hid (by simp [List.getD, hjP])
                  clear hc3
                  generalize P[j] = pj at *
                  have w3' : IntKind.i64.wrap pj = pj := IntWalk.i64_in _ (by omega)
                  by_cases hpj : 0 < pj
                  · skip
                    go_wp2_with (at_builtin; refine wpList_append_lies _ rfl _ _ _ rfl w.heap.size 50 i0 _ 3 24 Try.underlying34 hi0 hz0 hz1 hz2 rfl (by omega) _ j (rowOf l) rfl (hown.alloc _) ⟨wr.heap.size, 0, none⟩ 1 1 [.pointer (some ⟨sa, 0, none⟩), .pointer (some ⟨sb, 0, none⟩), .int .i64 (pv + pj)] rfl rfl (World.news_of_block (heap_alloc_new _ _)) (by simp [Value.oneCell']) (by omega) (by simp only [maxLen]; omega) (by omega) (by simp; omega) (wr.heap.size + 1) (by simp) ?_; intro gg cap w5 hown1 hgrow hat hlt2)
                    go_roundw
                    case rel =>
                      have hpt := partTo_step (P := P) (j := j) (d := pj) (by rw [GD.out]; exact .inr ⟨hj0, rfl⟩)
                      rw [HPV.out] at hpt
                      refine ⟨j + 1, _, l ++ [⟨sa, ga, sb, gb, ⟨colsTo us n n, colsTo ds n n, pv + pj⟩⟩], by omega, by omega, by go_num, by rw [← hpt], rfl, HC.out.step (S := [ga, gb]) (r := ⟨sa, ga, sb, gb, ⟨colsTo us n n, colsTo ds n n, pv + pj⟩⟩) O4 HS4.out ?_ ?_ hown1 (hown.alloc _) hgrow⟩
                      · exact ⟨SA', SB', by rw [colsTo_len, HN.out], by rw [colsTo_len, HN.out], HNEW.out⟩
                      · rw [SVO.out]
                        congr 1
                        rw [show partTo P j = partTo P (j + 1 - 1) from rfl, ← hpt]
                    case measure => simp [intOf]; omega
                  · skip
                    go_wp2_with (at_builtin; refine wpList_append_lies _ rfl _ _ _ rfl w.heap.size 50 i0 _ 3 24 Try.underlying34 hi0 hz0 hz1 hz2 rfl (by omega) _ j (rowOf l) rfl (hown.alloc _) ⟨wr.heap.size, 0, none⟩ 1 1 [.pointer (some ⟨sa, 0, none⟩), .pointer (some ⟨sb, 0, none⟩), .int .i64 (pv)] rfl rfl (World.news_of_block (heap_alloc_new _ _)) (by simp [Value.oneCell']) (by omega) (by simp only [maxLen]; omega) (by omega) (by simp; omega) (wr.heap.size + 1) (by simp) ?_; intro gg cap w5 hown1 hgrow hat hlt2)
                    go_roundw
                    case rel =>
                      have hpt := partTo_step (P := P) (j := j) (d := 0) (by rw [GD.out]; exact .inr ⟨hj0, by omega⟩)
                      rw [HPV.out] at hpt
                      refine ⟨j + 1, _, l ++ [⟨sa, ga, sb, gb, ⟨colsTo us n n, colsTo ds n n, pv⟩⟩], by omega, by omega, by go_num, by rw [← hpt]; simp, rfl, HC.out.step (S := [ga, gb]) (r := ⟨sa, ga, sb, gb, ⟨colsTo us n n, colsTo ds n n, pv⟩⟩) O4 HS4.out ?_ ?_ hown1 (hown.alloc _) hgrow⟩
                      · exact ⟨SA', SB', by rw [colsTo_len, HN.out], by rw [colsTo_len, HN.out], HNEW.out⟩
                      · rw [SVO.out]
                        congr 1
                        rw [show partTo P j = partTo P (j + 1 - 1) from rfl, ← hpt]; simp
                    case measure => simp [intOf]; omega
                · have GD : Hid (P.getD j 0 = 0) := Lib.hid (by simp [List.getD, List.getElem?_eq_none (Nat.not_lt.1 hjP)])
                  go_wp2_with (at_builtin; refine wpList_append_lies _ rfl _ _ _ rfl w.heap.size 50 i0 _ 3 24 Try.underlying34 hi0 hz0 hz1 hz2 rfl (by omega) _ j (rowOf l) rfl (hown.alloc _) ⟨wr.heap.size, 0, none⟩ 1 1 [.pointer (some ⟨sa, 0, none⟩), .pointer (some ⟨sb, 0, none⟩), .int .i64 (pv)] rfl rfl (World.news_of_block (heap_alloc_new _ _)) (by simp [Value.oneCell']) (by omega) (by simp only [maxLen]; omega) (by omega) (by simp; omega) (wr.heap.size + 1) (by simp) ?_; intro gg cap w5 hown1 hgrow hat hlt2)
                  go_roundw
                  case rel =>
                    have hpt := partTo_step (P := P) (j := j) (d := 0) (by rw [GD.out]; exact .inr ⟨hj0, rfl⟩)
                    rw [HPV.out] at hpt
                    refine ⟨j + 1, _, l ++ [⟨sa, ga, sb, gb, ⟨colsTo us n n, colsTo ds n n, pv⟩⟩], by omega, by omega, by go_num, by rw [← hpt]; simp, rfl, HC.out.step (S := [ga, gb]) (r := ⟨sa, ga, sb, gb, ⟨colsTo us n n, colsTo ds n n, pv⟩⟩) O4 HS4.out ?_ ?_ hown1 (hown.alloc _) hgrow⟩
                    · exact ⟨SA', SB', by rw [colsTo_len, HN.out], by rw [colsTo_len, HN.out], HNEW.out⟩
                    · rw [SVO.out]
                      congr 1
                      rw [show partTo P j = partTo P (j + 1 - 1) from rfl, ← hpt]; simp
                  case measure => simp [intOf]; omega
              · skip
                go_wp2_with (at_builtin; refine wpList_append_lies _ rfl _ _ _ rfl w.heap.size 50 i0 _ 3 24 Try.underlying34 hi0 hz0 hz1 hz2 rfl (by omega) _ j (rowOf l) rfl (hown.alloc _) ⟨wr.heap.size, 0, none⟩ 1 1 [.pointer (some ⟨sa, 0, none⟩), .pointer (some ⟨sb, 0, none⟩), .int .i64 (pv)] rfl rfl (World.news_of_block (heap_alloc_new _ _)) (by simp [Value.oneCell']) (by omega) (by simp only [maxLen]; omega) (by omega) (by simp; omega) (wr.heap.size + 1) (by simp) ?_; intro gg cap w5 hown1 hgrow hat hlt2)
                go_roundw
                case rel =>
                  have hpt := partTo_step (P := P) (j := j) (d := 0) (.inl ⟨by omega, rfl⟩)
                  rw [HPV.out] at hpt
                  refine ⟨j + 1, _, l ++ [⟨sa, ga, sb, gb, ⟨colsTo us n n, colsTo ds n n, pv⟩⟩], by omega, by omega, by go_num, by rw [← hpt]; simp, rfl, HC.out.step (S := [ga, gb]) (r := ⟨sa, ga, sb, gb, ⟨colsTo us n n, colsTo ds n n, pv⟩⟩) O4 HS4.out ?_ ?_ hown1 (hown.alloc _) hgrow⟩
                  · exact ⟨SA', SB', by rw [colsTo_len, HN.out], by rw [colsTo_len, HN.out], HNEW.out⟩
                  · rw [SVO.out]
                    congr 1
                    rw [show partTo P j = partTo P (j + 1 - 1) from rfl, ← hpt]; simp
                case measure => simp [intOf]; omega
          · skip
            clear hj1 hc1
            have SA' : Sky wr sa ga 1 (colsTo us n n) := by rw [← colsTo_end us n k (by have := HLA.out; omega)]; exact SA
            have SB' : Sky wr sb gb (-1) (colsTo ds n n) := by rw [← colsTo_end ds n k (by have := HLB.out; omega)]; exact SB
            have HS4 := Lib.hid (show ∀ q ∈ [ga, gb], wo.heap.size ≤ q from fun q hq => by have h1 := HGA.out; have h2 := HGB.out; simp at hq; omega)
            have hown := own_only HC.out.own O4 (fun q hq hm => by have h1 := (HC.out.own.lt q hq).2; have h2 := HS4.out q hm; omega)
            have HNEW := Lib.hid (show w.heap.size ≤ sa ∧ w.heap.size ≤ ga ∧ w.heap.size ≤ sb ∧ w.heap.size ≤ gb from by have h0 := HC.out.only.size; have h1 := HSA.out; have h2 := HGA.out; have h3 := HSB.out; have h4 := HGB.out; omega)
            have hsz1 := HC.out.only.size
            have hsz2 := O4.size
            have hpr := partTo_range HP.out.rng (j - 1)
            obtain ⟨pv, hpv⟩ : ∃ pv, partTo P (j - 1) = pv := ⟨_, rfl⟩
            rw [hpv] at hpr ⊢
            have HPV := Lib.hid hpv
            have hpr' : 0 ≤ pv ∧ pv ≤ 100000 := by omega
            clear hpv hpr SA SB
            by_cases hj0 : 0 < j
            · by_cases hjP : j < P.length
              · obtain ⟨b3, off3, rfl, hb3, hc3⟩ := HP.out.at_ j hjP
                have s3 : wr.cell? ⟨b3, off3 + j, none⟩ = some (.int .u8 P[j]) := (((HC.out.only.more (T := [ga, gb]) (by simp)).trans O4).cell (p := ⟨b3, off3 + j, none⟩) hb3 (fun hm => by have h0 := HS4.out _ hm; have h5 : b3 < w.heap.size := hb3; simp only at h0; omega)).trans hc3
                have j2 : (j : Int) < (P.length : Int) := by omega
                have hr3 := HP.out.rng P[j] (List.getElem_mem hjP)
                have GD : Hid (P.getD j 0 = P[j]) := Lib.hid (by simp [List.getD, hjP])
                clear hc3
                generalize P[j] = pj at *
                have w3' : IntKind.i64.wrap pj = pj := IntWalk.i64_in _ (by omega)
                by_cases hpj : 0 < pj
                · skip
                  go_wp2_with (at_builtin; refine wpList_append_lies _ rfl _ _ _ rfl w.heap.size 50 i0 _ 3 24 Try.underlying34 hi0 hz0 hz1 hz2 rfl (by omega) _ j (rowOf l) rfl (hown.alloc _) ⟨wr.heap.size, 0, none⟩ 1 1 [.pointer (some ⟨sa, 0, none⟩), .pointer (some ⟨sb, 0, none⟩), .int .i64 (pv + pj)] rfl rfl (World.news_of_block (heap_alloc_new _ _)) (by simp [Value.oneCell']) (by omega) (by simp only [maxLen]; omega) (by omega) (by simp; omega) (wr.heap.size + 1) (by simp) ?_; intro gg cap w5 hown1 hgrow hat hlt2)
                  go_roundw
                  case rel =>
                    have hpt := partTo_step (P := P) (j := j) (d := pj) (by rw [GD.out]; exact .inr ⟨hj0, rfl⟩)
                    rw [HPV.out] at hpt
                    refine ⟨j + 1, _, l ++ [⟨sa, ga, sb, gb, ⟨colsTo us n n, colsTo ds n n, pv + pj⟩⟩], by omega, by omega, by go_num, by rw [← hpt], rfl, HC.out.step (S := [ga, gb]) (r := ⟨sa, ga, sb, gb, ⟨colsTo us n n, colsTo ds n n, pv + pj⟩⟩) O4 HS4.out ?_ ?_ hown1 (hown.alloc _) hgrow⟩
                    · exact ⟨SA', SB', by rw [colsTo_len, HN.out], by rw [colsTo_len, HN.out], HNEW.out⟩
                    · rw [SVO.out]
                      congr 1
                      rw [show partTo P j = partTo P (j + 1 - 1) from rfl, ← hpt]
                  case measure => simp [intOf]; omega
                · skip
                  go_wp2_with (at_builtin; refine wpList_append_lies _ rfl _ _ _ rfl w.heap.size 50 i0 _ 3 24 Try.underlying34 hi0 hz0 hz1 hz2 rfl (by omega) _ j (rowOf l) rfl (hown.alloc _) ⟨wr.heap.size, 0, none⟩ 1 1 [.pointer (some ⟨sa, 0, none⟩), .pointer (some ⟨sb, 0, none⟩), .int .i64 (pv)] rfl rfl (World.news_of_block (heap_alloc_new _ _)) (by simp [Value.oneCell']) (by omega) (by simp only [maxLen]; omega) (by omega) (by simp; omega) (wr.heap.size + 1) (by simp) ?_; intro gg cap w5 hown1 hgrow hat hlt2)
                  go_roundw
                  case rel =>
                    have hpt := partTo_step (P := P) (j := j) (d := 0) (by rw [GD.out]; exact .inr ⟨hj0, by omega⟩)
                    rw [HPV.out] at hpt
                    refine ⟨j + 1, _, l ++ [⟨sa, ga, sb, gb, ⟨colsTo us n n, colsTo ds n n, pv⟩⟩], by omega, by omega, by go_num, by rw [← hpt]; simp, rfl, HC.out.step (S := [ga, gb]) (r := ⟨sa, ga, sb, gb, ⟨colsTo us n n, colsTo ds n n, pv⟩⟩) O4 HS4.out ?_ ?_ hown1 (hown.alloc _) hgrow⟩
                    · exact ⟨SA', SB', by rw [colsTo_len, HN.out], by rw [colsTo_len, HN.out], HNEW.out⟩
                    · rw [SVO.out]
                      congr 1
                      rw [show partTo P j = partTo P (j + 1 - 1) from rfl, ← hpt]; simp
                  case measure => simp [intOf]; omega
              · have GD : Hid (P.getD j 0 = 0) := Lib.hid (by simp [List.getD, List.getElem?_eq_none (Nat.not_lt.1 hjP)])
                go_wp2_with (at_builtin; refine wpList_append_lies _ rfl _ _ _ rfl w.heap.size 50 i0 _ 3 24 Try.underlying34 hi0 hz0 hz1 hz2 rfl (by omega) _ j (rowOf l) rfl (hown.alloc _) ⟨wr.heap.size, 0, none⟩ 1 1 [.pointer (some ⟨sa, 0, none⟩), .pointer (some ⟨sb, 0, none⟩), .int .i64 (pv)] rfl rfl (World.news_of_block (heap_alloc_new _ _)) (by simp [Value.oneCell']) (by omega) (by simp only [maxLen]; omega) (by omega) (by simp; omega) (wr.heap.size + 1) (by simp) ?_; intro gg cap w5 hown1 hgrow hat hlt2)
                go_roundw
                case rel =>
                  have hpt := partTo_step (P := P) (j := j) (d := 0) (by rw [GD.out]; exact .inr ⟨hj0, rfl⟩)
                  rw [HPV.out] at hpt
                  refine ⟨j + 1, _, l ++ [⟨sa, ga, sb, gb, ⟨colsTo us n n, colsTo ds n n, pv⟩⟩], by omega, by omega, by go_num, by rw [← hpt]; simp, rfl, HC.out.step (S := [ga, gb]) (r := ⟨sa, ga, sb, gb, ⟨colsTo us n n, colsTo ds n n, pv⟩⟩) O4 HS4.out ?_ ?_ hown1 (hown.alloc _) hgrow⟩
                  · exact ⟨SA', SB', by rw [colsTo_len, HN.out], by rw [colsTo_len, HN.out], HNEW.out⟩
                  · rw [SVO.out]
                    congr 1
                    rw [show partTo P j = partTo P (j + 1 - 1) from rfl, ← hpt]; simp
                case measure => simp [intOf]; omega
            · skip
              go_wp2_with (at_builtin; refine wpList_append_lies _ rfl _ _ _ rfl w.heap.size 50 i0 _ 3 24 Try.underlying34 hi0 hz0 hz1 hz2 rfl (by omega) _ j (rowOf l) rfl (hown.alloc _) ⟨wr.heap.size, 0, none⟩ 1 1 [.pointer (some ⟨sa, 0, none⟩), .pointer (some ⟨sb, 0, none⟩), .int .i64 (pv)] rfl rfl (World.news_of_block (heap_alloc_new _ _)) (by simp [Value.oneCell']) (by omega) (by simp only [maxLen]; omega) (by omega) (by simp; omega) (wr.heap.size + 1) (by simp) ?_; intro gg cap w5 hown1 hgrow hat hlt2)
              go_roundw
              case rel =>
                have hpt := partTo_step (P := P) (j := j) (d := 0) (.inl ⟨by omega, rfl⟩)
                rw [HPV.out] at hpt
                refine ⟨j + 1, _, l ++ [⟨sa, ga, sb, gb, ⟨colsTo us n n, colsTo ds n n, pv⟩⟩], by omega, by omega, by go_num, by rw [← hpt]; simp, rfl, HC.out.step (S := [ga, gb]) (r := ⟨sa, ga, sb, gb, ⟨colsTo us n n, colsTo ds n n, pv⟩⟩) O4 HS4.out ?_ ?_ hown1 (hown.alloc _) hgrow⟩
                · exact ⟨SA', SB', by rw [colsTo_len, HN.out], by rw [colsTo_len, HN.out], HNEW.out⟩
                · rw [SVO.out]
                  congr 1
                  rw [show partTo P j = partTo P (j + 1 - 1) from rfl, ← hpt]; simp
              case measure => simp [intOf]; omega
      · go_wp2
        go_ret
        obtain rfl : j = 6 := by omega
        refine ⟨_, l, rfl, ?_⟩
        rw [show min X.length 6 = 6 by omega]
        exact hC
    · go_wp2
      go_ret
      obtain rfl : j = X.length := by omega
      refine ⟨_, l, rfl, ?_⟩
      rw [show min X.length 6 = X.length by omega]
      exact hC
end Go.Proofs.Yticpophdoiljfaa
