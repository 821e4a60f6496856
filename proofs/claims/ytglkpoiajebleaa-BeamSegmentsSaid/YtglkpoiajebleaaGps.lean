/- DERIVED. Contracts of package beam: Groups. -/
import Derived.Test.YtglkpoiajebleaaJnd
namespace Go.Proofs.Ytglkpoiajebleaa
open Go.RowKit

/-- How far a run goes. -/
def runK (J : Nat → Bool) (n : Nat) : Nat → Nat → Nat
  | 0, k => k
  | f + 1, k => if k + 1 < n ∧ J k = true then runK J n f (k + 1) else k
def grpF (J : Nat → Bool) (n : Nat) : Nat → Nat → List (Nat × Nat)
  | 0, _ => []
  | f + 1, i => if i < n then (if i < runK J n n i then [(i, runK J n n i)] else []) ++ grpF J n f (runK J n n i + 1) else []
theorem runK_le (J : Nat → Bool) (n : Nat) : ∀ f k, k ≤ runK J n f k ∧ (k < n → runK J n f k < n)
  | 0, k => by simp [runK]
  | f + 1, k => by
    unfold runK
    split
    · have := runK_le J n f (k + 1); omega
    · omega
theorem runK_more (J : Nat → Bool) (n : Nat) : ∀ f g k, n ≤ k + f → n ≤ k + g → runK J n f k = runK J n g k
  | 0, 0, k, _, _ => rfl
  | 0, g + 1, k, h, _ => by unfold runK; rw [if_neg (by omega)]
  | f + 1, 0, k, _, h => by unfold runK; rw [if_neg (by omega)]
  | f + 1, g + 1, k, h1, h2 => by
    unfold runK
    split
    · exact runK_more J n f g (k + 1) (by omega) (by omega)
    · rfl
theorem runK_step (J : Nat → Bool) (n k : Nat) (h : k + 1 < n) (hj : J k = true) : runK J n n k = runK J n n (k + 1) := by
  obtain ⟨f, rfl⟩ : ∃ f, n = f + 1 := ⟨n - 1, by omega⟩
  rw [runK, if_pos ⟨h, hj⟩]
  exact runK_more J _ f _ _ (by omega) (by omega)
theorem runK_end (J : Nat → Bool) (n k : Nat) (hn : 0 < n) (h : ¬ (k + 1 < n ∧ J k = true)) : runK J n n k = k := by
  obtain ⟨f, rfl⟩ : ∃ f, n = f + 1 := ⟨n - 1, by omega⟩
  rw [runK, if_neg h]
theorem grpF_more (J : Nat → Bool) (n : Nat) : ∀ f g i, n ≤ i + f → n ≤ i + g → grpF J n f i = grpF J n g i
  | 0, 0, i, _, _ => rfl
  | 0, g + 1, i, h, _ => by unfold grpF; rw [if_neg (by omega)]
  | f + 1, 0, i, _, h => by unfold grpF; rw [if_neg (by omega)]
  | f + 1, g + 1, i, h1, h2 => by
    unfold grpF
    by_cases hi : i < n
    · rw [if_pos hi, if_pos hi]
      congr 1
      have := (runK_le J n n i).1
      exact grpF_more J n f g _ (by omega) (by omega)
    · rw [if_neg hi, if_neg hi]
theorem grpF_step (J : Nat → Bool) (n i : Nat) (h : i < n) : grpF J n n i = (if i < runK J n n i then [(i, runK J n n i)] else []) ++ grpF J n n (runK J n n i + 1) := by
  obtain ⟨f, rfl⟩ : ∃ f, n = f + 1 := ⟨n - 1, by omega⟩
  rw [grpF, if_pos h]
  congr 1
  have := (runK_le J (f + 1) (f + 1) i).1
  exact grpF_more J _ f _ _ (by omega) (by omega)
theorem grpF_end (J : Nat → Bool) (n i : Nat) (h : n ≤ i) : grpF J n n i = [] := by
  cases n with
  | zero => rfl
  | succ f => rw [grpF, if_neg (by omega)]
/-- The groups' cells. -/
def gCells (l : List (Nat × Nat)) : List Value := l.flatMap fun p => [.int .i64 p.1, .int .i64 p.2]
theorem gCells_len (l : List (Nat × Nat)) : (gCells l).length = l.length * 2 := by
  induction l with
  | nil => rfl
  | cons p r ih => simp [gCells] at ih ⊢; omega
theorem gCells_snoc (l : List (Nat × Nat)) (p : Nat × Nat) : gCells (l ++ [p]) = gCells l ++ [.int .i64 p.1, .int .i64 p.2] := by simp [gCells]
theorem group_info : (Try.prog.info? 40).map (fun i => (i.zero, i.size, i.bytes)) = some (some (.agg #[.int .i64 0, .int .i64 0]), 2, 16) := by kernel_rfl
def ntAt (l : List Nt) (i : Nat) : Nt := l.getD i ⟨0, 0, 0, 0, 0, 0⟩
/-- The groups of notes. -/
def groupsE (m : Met) (gs : List Int) (off : Int) (l : List Nt) : List (Nat × Nat) := grpF (fun i => joinB m gs off (ntAt l i) (ntAt l (i + 1))) l.length l.length 0

theorem near6 {W : World} {b o : Nat} {v0 v1 v2 v3 v4 v5 : Value} (hb : b < W.heap.size) (m0 : W.cell? ⟨b, o, none⟩ = some v0) (m1 : W.cell? ⟨b, o + 1, none⟩ = some v1) (m2 : W.cell? ⟨b, o + 2, none⟩ = some v2)
    (m3 : W.cell? ⟨b, o + 3, none⟩ = some v3) (m4 : W.cell? ⟨b, o + 4, none⟩ = some v4) (m5 : W.cell? ⟨b, o + 5, none⟩ = some v5) :
    (∀ i : Near [] W, i.W.cell? ⟨b, o, none⟩ = some v0) ∧ (∀ i : Near [] W, i.W.cell? ⟨b, o + 1, none⟩ = some v1) ∧ (∀ i : Near [] W, i.W.cell? ⟨b, o + 2, none⟩ = some v2)
      ∧ (∀ i : Near [] W, i.W.cell? ⟨b, o + 3, none⟩ = some v3) ∧ (∀ i : Near [] W, i.W.cell? ⟨b, o + 4, none⟩ = some v4) ∧ (∀ i : Near [] W, i.W.cell? ⟨b, o + 5, none⟩ = some v5) :=
  ⟨fun i => (i.only.cell hb (by simp)).trans m0, fun i => (i.only.cell hb (by simp)).trans m1, fun i => (i.only.cell hb (by simp)).trans m2, fun i => (i.only.cell hb (by simp)).trans m3, fun i => (i.only.cell hb (by simp)).trans m4, fun i => (i.only.cell hb (by simp)).trans m5⟩

set_option maxRecDepth 20000 in
set_option maxHeartbeats 4000000 in
theorem Groups_bad {w : World} {A : Option Addr} {l : List Nt} (m : Met) (off : Int) (c : Nat) (h : NotesAt w A l) (hl : l.length ≤ 128) (hb : allE m off l ≠ 0) :
    Calls Try.prog 11 #[metV m, .int .i64 off, .slice A l.length c] w fun e w' => e = .returned (.tuple #[.slice none 0 0, .int .i64 (allE m off l)]) ∧ Only [] w w' := by
  have HA := Lib.hid fun w2 (o : Only [] w w2) => checkAll_any m off c (h.only o) hl
  obtain ⟨R, hR⟩ : ∃ R, allE m off l = R := ⟨_, rfl⟩
  rw [hR] at HA hb ⊢
  clear hR h
  have OA := Lib.hid (((Only.refl [] w).alloc (metBox m)).alloc (.cells #[.int .i64 off] 3))
  go_enter Try.func11, Try.ntmps11
  go_wp2_with (go_at_call 23; refine (HA.out _ OA.out).mono ?_; rintro e w1 ⟨rfl, o1⟩)
  go_ret2
  exact ⟨rfl, OA.out.trans o1⟩

set_option maxRecDepth 20000 in
set_option maxHeartbeats 8000000 in
theorem Groups_any {w : World} {A : Option Addr} {l : List Nt} (m : Met) (gs : List Int) (hG : GrpC m gs) (hgl : gs.length ≤ 64) (hg : ∀ x ∈ gs, 0 ≤ x ∧ x ≤ 64) (off : Int) (c : Nat) (h : NotesAt w A l) (hl : l.length ≤ 128) (hb : allE m off l = 0) :
    Calls Try.prog 11 #[metV m, .int .i64 off, .slice A l.length c] w fun e w' => ∃ v, e = .returned (.tuple #[v, .int .i64 0]) ∧ w'.ownsRow w.heap.size 40 2 v (groupsE m gs off l).length (gCells (groupsE m gs off l)) ∧ Only [] w w' := by
  obtain ⟨i0, hi0, hz0, hz1, hz2⟩ := info_parts group_info
  have HA := Lib.hid fun w2 (o : Only [] w w2) => checkAll_any m off c (h.only o) hl
  have H := Lib.hid h
  rw [hb] at HA
  have hck : m.chk = 0 := by
    unfold allE at hb
    by_cases h0 : m.chk = 0
    · exact h0
    · rw [if_pos h0] at hb; exact absurd hb h0
  have hof : 0 ≤ off ∧ off ≤ 4398046511104 := by
    unfold allE at hb
    rw [if_neg (by simpa using hck)] at hb
    by_cases h0 : 0 ≤ off ∧ off ≤ 4398046511104
    · exact h0
    · rw [if_pos h0] at hb; omega
  have hnt : ntE none l = 0 ∧ lateE off l = 0 := by
    unfold allE at hb
    rw [if_neg (by simpa using hck), if_neg (by simpa using hof)] at hb
    by_cases h0 : ntE none l = 0
    · rw [if_neg (by simpa using h0)] at hb; exact ⟨h0, hb⟩
    · rw [if_pos h0] at hb; exact absurd hb h0
  have HOK := Lib.hid (ntE_ok l none hnt.1)
  have HLT : Hid (∀ x ∈ l, off + x.t ≤ 4398046511104) := Lib.hid fun x hx => by
    have := hnt.2
    unfold lateE at this
    by_cases h0 : 4398046511104 < off + x.t
    · rw [if_pos ⟨x, hx, h0⟩] at this; omega
    · omega
  have OA := Lib.hid (((Only.refl [] w).alloc (metBox m)).alloc (.cells #[.int .i64 off] 3))
  have BM := Lib.hid ((Blk.new w 36 (metL m)).alloc (.cells #[.int .i64 off] 3))
  have BO := Lib.hid (Blk.new (w.alloc (metBox m)) 3 [.int .i64 off])
  have es : (w.alloc (metBox m)).heap.size = w.heap.size + 1 := by simp
  rw [es] at BO
  have HJ := Lib.hid fun (a b : Nt) (w2 : World) (hM : Blk w2 w.heap.size 36 (metL m)) (hO : Blk w2 (w.heap.size + 1) 3 [.int .i64 off]) (ha : a.Ok) (hb : b.Ok) (h1 : off + a.t ≤ 4398046511104) (h2 : off + b.t ≤ 4398046511104) => joined_any m hck gs hG hgl hg off a b hM hO ha hb hof.1 h1 h2
  clear h hb hnt hG hgl hg es hck
  obtain ⟨J, hJ⟩ : ∃ J, (fun a b => joinB m gs off a b) = J := ⟨_, rfl⟩
  have hJ2 : ∀ a b, joinB m gs off a b = J a b := fun a b => by rw [← hJ]
  simp only [hJ2, groupsE] at HJ ⊢
  obtain ⟨R, hR⟩ : ∃ R, grpF (fun i => J (ntAt l i) (ntAt l (i + 1))) l.length l.length 0 = R := ⟨_, rfl⟩
  rw [hR]
  have HR := Lib.hid hR
  clear hJ hJ2 hR
  go_enter Try.func11, Try.ntmps11
  go_wp2_with (go_at_call 23; refine (HA.out _ OA.out).mono ?_; rintro e w1 ⟨rfl, o1⟩)
  have O1 := Lib.hid (OA.out.trans o1)
  have BM1 := Lib.hid (BM.out.only o1 (by simp))
  have BO1 := Lib.hid (BO.out.only o1 (by simp))
  have hsz := O1.out.size
  clear o1 HA OA BM BO
  go_loopw [10, 11] (fun o f wr => ∃ (i : Nat) (pre : List (Nat × Nat)) (v : Value), i ≤ l.length ∧ f = .int .i64 i ∧ v = o ∧ Hid (pre.length ≤ i) ∧ Hid (pre ++ grpF (fun i => J (ntAt l i) (ntAt l (i + 1))) l.length l.length i = R) ∧ wr.ownsRow w1.heap.size 40 2 v pre.length (gCells pre) ∧ Only [] w1 wr) (fun _ f _ => l.length - (intOf f).toNat)
  case atStart => exact ⟨0, [], _, by omega, rfl, rfl, Lib.hid (by simp), Lib.hid (by rw [HR.out, List.nil_append]), World.ownsRow_nil _ _ _ _, Only.refl _ _⟩
  case round =>
    obtain ⟨i, pre, v, hi, rfl, rfl, HPL, HRi, hown, hO⟩ := hrel
    obtain ⟨V, rfl⟩ : ∃ V, V = wr := ⟨_, rfl⟩
    by_cases hlt : i < l.length
    · have HOW := Lib.hid hown
      have HO := Lib.hid hO
      have hKle := runK_le (fun i => J (ntAt l i) (ntAt l (i + 1))) l.length l.length i
      have HST := Lib.hid (grpF_step (fun i => J (ntAt l i) (ntAt l (i + 1))) l.length i hlt)
      obtain ⟨K, hK⟩ : ∃ K, runK (fun i => J (ntAt l i) (ntAt l (i + 1))) l.length l.length i = K := ⟨_, rfl⟩
      rw [hK] at hKle HST
      have HK := Lib.hid hK
      have HL := Lib.hid hlt
      have hi1 := hKle.1
      have hK1 := hKle.2 hlt
      clear hown hO hKle hK
      go_wp2_with fail
      go_loopw [12] (fun k wr2 => ∃ k' : Nat, i ≤ k' ∧ k' < l.length ∧ k = .int .i64 k' ∧ Hid (runK (fun i => J (ntAt l i) (ntAt l (i + 1))) l.length l.length k' = K) ∧ Only [] V wr2) (fun k _ => l.length - (intOf k).toNat)
      case atStart => exact ⟨i, by omega, HL.out, rfl, HK, Only.refl _ _⟩
      case round =>
        obtain ⟨k, hk1, hk2, rfl, HKk, hO2⟩ := hrel
        have HO2 := Lib.hid hO2
        by_cases hkn : k + 1 < l.length
        · have hoo : Only [] w V := O1.out.trans HO.out
          obtain ⟨b, off', rfl, hb, hcs⟩ := (H.out.only (hoo.trans hO2)) k hk2
          obtain ⟨b', off'', e2, hb', hcs'⟩ := (H.out.only (hoo.trans hO2)) (k + 1) hkn
          injection e2 with e2
          injection e2 with e2 e3
          subst e2 e3
          have m0 := hcs 0 (by omega)
          have m1 := hcs 1 (by omega)
          have m2 := hcs 2 (by omega)
          have m3 := hcs 3 (by omega)
          have m4 := hcs 4 (by omega)
          have m5 := hcs 5 (by omega)
          have p0 := hcs' 0 (by omega)
          have p1 := hcs' 1 (by omega)
          have p2 := hcs' 2 (by omega)
          have p3 := hcs' 3 (by omega)
          have p4 := hcs' 4 (by omega)
          have p5 := hcs' 5 (by omega)
          simp only [Nt.vs, List.getElem?_cons_zero, List.getElem?_cons_succ, Nat.add_zero] at m0 m1 m2 m3 m4 m5 p0 p1 p2 p3 p4 p5
          clear hcs hcs' hb' hoo hO2
          have ea : ntAt l k = l[k] := by simp [ntAt, hk2]
          have eb : ntAt l (k + 1) = l[k + 1] := by simp [ntAt, hkn]
          have ha1 := HOK.out l[k] (List.getElem_mem _)
          have hb1 := HOK.out l[k + 1] (List.getElem_mem _)
          have ha2 := HLT.out l[k] (List.getElem_mem _)
          have hb2 := HLT.out l[k + 1] (List.getElem_mem _)
          obtain ⟨x, hx⟩ : ∃ x, l[k] = x := ⟨_, rfl⟩
          obtain ⟨y, hy⟩ : ∃ y, l[k + 1] = y := ⟨_, rfl⟩
          rw [hx] at m0 m1 m2 m3 m4 m5 ea ha1 ha2
          rw [hy] at p0 p1 p2 p3 p4 p5 eb hb1 hb2
          have HJJ := Lib.hid fun (w2 : World) (o : Only [] V w2) => HJ.out x y w2 (BM1.out.only (HO.out.trans o) (by simp)) (BO1.out.only (HO.out.trans o) (by simp)) ha1 hb1 ha2 hb2
          have EA := Lib.hid ea
          have EB := Lib.hid eb
          obtain ⟨jb, hjb⟩ : ∃ jb, J x y = jb := ⟨_, rfl⟩
          rw [hjb] at HJJ
          have HJB := Lib.hid hjb
          have k0 : (0 : Int) ≤ (k : Int) := by omega
          have k1 : (k : Int) < (l.length : Int) := by omega
          have k2 : (k : Int) + 1 < (l.length : Int) := by omega
          have k3 : (0 : Int) ≤ (k : Int) + 1 := by omega
          have HK2 := Lib.hid hk2
          clear ea eb ha1 hb1 ha2 hb2 hx hy hjb
          obtain ⟨n0, n1, n2, n3, n4, n5⟩ := near6 hb m0 m1 m2 m3 m4 m5
          obtain ⟨r0, r1, r2, r3, r4, r5⟩ := near6 hb p0 p1 p2 p3 p4 p5
          clear m0 m1 m2 m3 m4 m5 p0 p1 p2 p3 p4 p5 hb hk2
          go_wp2_with fail
          refine wp_near [] (by kernel_rfl) (by kernel_rfl) ?_
          repeat (go_big_quiet_step ((go_at_call 24; exact near_call _ (HJJ.out _ (HO2.out.trans (Near.only _))))))
          refine wpQuiet_nil ?_
          intro ni
          obtain ⟨WQ, pq⟩ := ni
          dsimp only
          have O2 := Lib.hid (HO2.out.trans pq)
          clear n0 n1 n2 n3 n4 n5 r0 r1 r2 r3 r4 r5 pq HO2
          cases jb
          · have EK := Lib.hid (show k = K by
              rw [← HKk.out, runK_end _ _ _ (by omega) (by rw [EA.out, EB.out, HJB.out]; simp)])
            have HS2 := Lib.hid (HST.out)
            have hsz2 := hsz
            have OW := Lib.hid (HO.out.trans O2.out)
            have hownW := Lib.hid (own_only HOW.out O2.out (by simp))
            have hks : i ≤ k := hk1
            have hpl := HPL.out
            have hsw := OW.out.size
            by_cases hik : i < k
            · go_wp2_with (at_builtin; refine wpList_append_lies _ rfl _ _ _ rfl w1.heap.size 40 i0 _ 2 16 Try.underlying30 hi0 hz0 hz1 hz2 rfl (by omega) v pre.length (gCells pre) rfl (hownW.out.alloc _) ⟨WQ.heap.size, 0, none⟩ 1 1 [.int .i64 i, .int .i64 k] rfl rfl (World.news_of_block (cs := #[.int .i64 i, .int .i64 k]) (t := 40) (fr := (0, 0)) (heap_alloc_new WQ _)) (by simp [Value.oneCell']) (by omega) (by simp only [maxLen]; omega) (by omega) (by simp; omega) _ rfl ?_; intro gg cap w5 hown5 hgrow hat hlt5)
              go_roundw
              case rel =>
                refine ⟨k + 1, pre ++ [(i, k)], _, by omega, by go_num, rfl, Lib.hid (by simp; omega), Lib.hid ?_, ?_, (OW.out.alloc _).grown hgrow fun q hq => .inr (hownW.out.lt q hq).1⟩
                · rw [← HRi.out, HS2.out, ← EK.out, if_pos hik, List.append_assoc]
                · rw [gCells_snoc, List.length_append]; exact hown5
              case measure => have := HL.out; simp [intOf]; omega
            · obtain rfl : k = i := by omega
              have hik2 : ¬ k < k := by omega
              go_wp2_with fail
              go_roundw
              case rel =>
                refine ⟨k + 1, pre, _, by omega, by go_num, rfl, Lib.hid (by omega), Lib.hid ?_, hownW.out, OW.out⟩
                rw [← HRi.out, HS2.out, ← EK.out, if_neg hik, List.nil_append]
              case measure => have := HL.out; simp [intOf]; omega
          · go_wp2_with fail
            go_roundw
            case rel =>
              refine ⟨k + 1, by omega, by omega, by go_num, Lib.hid ?_, O2.out⟩
              rw [← HKk.out]
              exact (runK_step _ _ _ hkn (by rw [EA.out, EB.out, HJB.out])).symm
            case measure => have := HK2.out; simp [intOf]; omega
        · have k3 : ¬ (k : Int) + 1 < (l.length : Int) := by omega
          have kd : (decide ((k : Int) + 1 < (l.length : Int))) = false := decide_eq_false k3
          go_wp2_with fail
          refine wp_near [] (by kernel_rfl) (by kernel_rfl) ?_
          repeat (go_big_quiet_step (fail))
          refine wpQuiet_nil ?_
          intro ni
          obtain ⟨WQ, pq⟩ := ni
          dsimp only
          have O2 := Lib.hid (HO2.out.trans pq)
          clear pq HO2
          have EK := Lib.hid (show k = K by
            rw [← HKk.out, runK_end _ _ _ (by omega) (by omega)])
          have HS2 := Lib.hid (HST.out)
          have hsz2 := hsz
          have OW := Lib.hid (HO.out.trans O2.out)
          have hownW := Lib.hid (own_only HOW.out O2.out (by simp))
          have hks : i ≤ k := hk1
          have hpl := HPL.out
          have hsw := OW.out.size
          by_cases hik : i < k
          · go_wp2_with (at_builtin; refine wpList_append_lies _ rfl _ _ _ rfl w1.heap.size 40 i0 _ 2 16 Try.underlying30 hi0 hz0 hz1 hz2 rfl (by omega) v pre.length (gCells pre) rfl (hownW.out.alloc _) ⟨WQ.heap.size, 0, none⟩ 1 1 [.int .i64 i, .int .i64 k] rfl rfl (World.news_of_block (cs := #[.int .i64 i, .int .i64 k]) (t := 40) (fr := (0, 0)) (heap_alloc_new WQ _)) (by simp [Value.oneCell']) (by omega) (by simp only [maxLen]; omega) (by omega) (by simp; omega) _ rfl ?_; intro gg cap w5 hown5 hgrow hat hlt5)
            go_roundw
            case rel =>
              refine ⟨k + 1, pre ++ [(i, k)], _, by omega, by go_num, rfl, Lib.hid (by simp; omega), Lib.hid ?_, ?_, (OW.out.alloc _).grown hgrow fun q hq => .inr (hownW.out.lt q hq).1⟩
              · rw [← HRi.out, HS2.out, ← EK.out, if_pos hik, List.append_assoc]
              · rw [gCells_snoc, List.length_append]; exact hown5
            case measure => have := HL.out; simp [intOf]; omega
          · obtain rfl : k = i := by omega
            have hik2 : ¬ k < k := by omega
            go_wp2_with fail
            go_roundw
            case rel =>
              refine ⟨k + 1, pre, _, by omega, by go_num, rfl, Lib.hid (by omega), Lib.hid ?_, hownW.out, OW.out⟩
              rw [← HRi.out, HS2.out, ← EK.out, if_neg hik, List.nil_append]
            case measure => have := HL.out; simp [intOf]; omega
    · obtain rfl : i = l.length := by omega
      have HRi2 := HRi.out
      rw [grpF_end _ _ _ (Nat.le_refl _), List.append_nil] at HRi2
      subst HRi2
      have HOW := Lib.hid hown
      have HO := Lib.hid hO
      have i2 : ¬ (l.length : Int) < (l.length : Int) := by omega
      clear hown hO HRi
      go_wp2_with fail
      go_ret2
      refine ⟨_, rfl, ⟨HOW.out.1, ?_⟩, O1.out.trans HO.out⟩
      rcases HOW.out.2 with h | ⟨g, cap, cur, rfl, hb, hg, hr⟩
      · exact .inl h
      · exact .inr ⟨g, cap, cur, rfl, by omega, hg, hr⟩
end Go.Proofs.Ytglkpoiajebleaa
