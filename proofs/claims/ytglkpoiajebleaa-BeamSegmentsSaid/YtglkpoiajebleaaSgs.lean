/- DERIVED. Contracts of package beam: Segments. -/
import Derived.Test.YtglkpoiajebleaaLev
import Derived.Test.YtglkpoiajebleaaPlc
import Derived.Test.YtglkpoiajebleaaFlg
import Derived.Test.YtglkpoiajebleaaGpm
import Derived.WalkMore
namespace Go.Proofs.Ytglkpoiajebleaa
open Go.RowKit

/-- Whether a beam of a level goes on from a note to the next one. -/
def goesOn (m : Met) (gs : List Int) (off : Int) (l : List Nt) (k : Int) (i : Nat) : Bool :=
  decide (k ≤ (ntAt l (i + 1)).fl) && !(decide (1 < k) && ((plc m gs (off + (ntAt l (i + 1)).t)).2.2 == 0))
/-- The direction of a hook. -/
def hookE (m : Met) (gs : List Int) (off : Int) (l : List Nt) (F K i e : Nat) : Int :=
  if i = e then (if i = F ∨ i < K ∧ levE m gs ((off + (ntAt l i).t) % m.len) < levE m gs ((off + (ntAt l (i + 1)).t) % m.len) then 1 else -1) else 0
/-- The beams of a level from a note on. -/
def segF (C : Nat → Bool) (H : Nat → Nat → Int) (fl : Nat → Int) (k : Int) (n : Nat) : Nat → Nat → List Sg
  | 0, _ => []
  | f + 1, i => if i < n then (if fl i < k then segF C H fl k n f (i + 1) else ⟨k, (i : Int), ((runK C n n i : Nat) : Int), H i (runK C n n i)⟩ :: segF C H fl k n f (runK C n n i + 1)) else []
theorem segF_more (C : Nat → Bool) (H : Nat → Nat → Int) (fl : Nat → Int) (k : Int) (n : Nat) : ∀ f g i, n ≤ i + f → n ≤ i + g → segF C H fl k n f i = segF C H fl k n g i
  | 0, 0, i, _, _ => rfl
  | 0, g + 1, i, h, _ => by unfold segF; rw [if_neg (by omega)]
  | f + 1, 0, i, _, h => by unfold segF; rw [if_neg (by omega)]
  | f + 1, g + 1, i, h1, h2 => by
    unfold segF
    by_cases hi : i < n
    · rw [if_pos hi, if_pos hi]
      have := (runK_le C n n i).1
      rw [segF_more C H fl k n f g (i + 1) (by omega) (by omega), segF_more C H fl k n f g (runK C n n i + 1) (by omega) (by omega)]
    · rw [if_neg hi, if_neg hi]
theorem segF_skip (C : Nat → Bool) (H : Nat → Nat → Int) (fl : Nat → Int) (k : Int) (n i : Nat) (h : i < n) (hf : fl i < k) : segF C H fl k n n i = segF C H fl k n n (i + 1) := by
  obtain ⟨f, rfl⟩ : ∃ f, n = f + 1 := ⟨n - 1, by omega⟩
  rw [segF, if_pos h, if_pos hf]
  exact segF_more C H fl k _ f _ _ (by omega) (by omega)
theorem segF_take (C : Nat → Bool) (H : Nat → Nat → Int) (fl : Nat → Int) (k : Int) (n i : Nat) (h : i < n) (hf : ¬ fl i < k) : segF C H fl k n n i = ⟨k, (i : Int), ((runK C n n i : Nat) : Int), H i (runK C n n i)⟩ :: segF C H fl k n n (runK C n n i + 1) := by
  obtain ⟨f, rfl⟩ : ∃ f, n = f + 1 := ⟨n - 1, by omega⟩
  rw [segF, if_pos h, if_neg hf]
  congr 1
  have := (runK_le C (f + 1) (f + 1) i).1
  exact segF_more C H fl k _ f _ _ (by omega) (by omega)
theorem segF_end (C : Nat → Bool) (H : Nat → Nat → Int) (fl : Nat → Int) (k : Int) (n i : Nat) (h : n ≤ i) : segF C H fl k n n i = [] := by
  cases n with
  | zero => rfl
  | succ f => rw [segF, if_neg (by omega)]
theorem segF_len (C : Nat → Bool) (H : Nat → Nat → Int) (fl : Nat → Int) (k : Int) (n : Nat) : ∀ f i, (segF C H fl k n f i).length ≤ n - i
  | 0, i => by simp [segF]
  | f + 1, i => by
    unfold segF
    have h1 := (runK_le C n n i).1
    have h2 := segF_len C H fl k n f (runK C n n i + 1)
    have h3 := segF_len C H fl k n f (i + 1)
    split
    · split
      · omega
      · rw [List.length_cons]; omega
    · simp
/-- The beams of a level. -/
def segK (m : Met) (gs : List Int) (off : Int) (l : List Nt) (F K : Nat) (k : Int) (i : Nat) : List Sg :=
  segF (goesOn m gs off l k) (hookE m gs off l F K) (fun i => (ntAt l i).fl) k (K + 1) (K + 1) i
/-- The beams of the first levels. -/
def segsTo (m : Met) (gs : List Int) (off : Int) (l : List Nt) (F K : Nat) : Nat → List Sg
  | 0 => []
  | k + 1 => segsTo m gs off l F K k ++ segK m gs off l F K ((k : Int) + 1) F
theorem segsTo_len (m : Met) (gs : List Int) (off : Int) (l : List Nt) (F K : Nat) : ∀ k, (segsTo m gs off l F K k).length ≤ k * (K + 1)
  | 0 => by simp [segsTo]
  | k + 1 => by
    have h1 := segsTo_len m gs off l F K k
    have h2 := segF_len (goesOn m gs off l ((k : Int) + 1)) (hookE m gs off l F K) (fun i => (ntAt l i).fl) ((k : Int) + 1) (K + 1) (K + 1) F
    rw [segsTo, List.length_append, Nat.add_mul]
    unfold segK
    omega
theorem own_set {w : World} {base n size : Nat} {e : TypeId} {v : Value} {xs : List Value} (h : w.ownsRow base e size v n xs) {p : Addr} (hp : ∀ q, v.ownBlock = some q → q ≠ p.block) (u : Value) : (w.setCell p u).ownsRow base e size v n xs := by
  refine ⟨h.1, ?_⟩
  rcases h.2 with hn | ⟨g, cap, cur, rfl, hb, hg, hr⟩
  · exact .inl hn
  · exact .inr ⟨g, cap, cur, rfl, hb, (Below.heap_setCell w p u g (hp g rfl)).trans hg, hr⟩
theorem own_lower {w : World} {base base2 n size : Nat} {e : TypeId} {v : Value} {xs : List Value} (h : w.ownsRow base e size v n xs) (hb : base2 ≤ base) : w.ownsRow base2 e size v n xs := by
  refine ⟨h.1, ?_⟩
  rcases h.2 with hn | ⟨g, cap, cur, rfl, hb', hr⟩
  · exact .inl hn
  · exact .inr ⟨g, cap, cur, rfl, Nat.le_trans hb hb', hr⟩
theorem segK_end (m : Met) (gs : List Int) (off : Int) (l : List Nt) (F K : Nat) (k : Int) : segK m gs off l F K k (K + 1) = [] := by
  unfold segK segF
  rw [if_neg (by omega)]
def mostTo (l : List Nt) (F : Nat) : Nat → Int
  | 0 => 0
  | j + 1 => max (mostTo l F j) (ntAt l (F + j)).fl
def sCells (l : List Sg) : List Value := l.flatMap Sg.vs
theorem sCells_len (l : List Sg) : (sCells l).length = l.length * 4 := by
  induction l with
  | nil => rfl
  | cons p r ih => simp [sCells, Sg.vs] at ih ⊢; omega
theorem sCells_snoc (l : List Sg) (p : Sg) : sCells (l ++ [p]) = sCells l ++ p.vs := by simp [sCells]
theorem seg_info : (Try.prog.info? 49).map (fun i => (i.zero, i.size, i.bytes)) = some (some (.agg #[.int .i64 0, .int .i64 0, .int .i64 0, .int .i64 0]), 4, 32) := by kernel_rfl
theorem mostTo_rng {l : List Nt} {F : Nat} (h : ∀ i, 0 ≤ (ntAt l i).fl ∧ (ntAt l i).fl ≤ 6) : ∀ j, 0 ≤ mostTo l F j ∧ mostTo l F j ≤ 6
  | 0 => by simp [mostTo]
  | j + 1 => by have := mostTo_rng (F := F) h j; have := h (F + j); rw [mostTo]; omega

set_option maxRecDepth 20000 in
set_option maxHeartbeats 4000000 in
theorem Segments_bad {w : World} {A : Option Addr} {l : List Nt} (m : Met) (off : Int) (c : Nat) (h : NotesAt w A l) (hl : l.length ≤ 128) (hcap : l.length ≤ c) (f k : Int) (hb : allE m off l ≠ 0 ∨ gE l f k ≠ 0) :
    Calls Try.prog 18 #[metV m, .int .i64 off, .slice A l.length c, grpV f k] w fun e w' => e = .returned (.tuple #[.slice none 0 0, .int .i64 (if allE m off l ≠ 0 then allE m off l else gE l f k)]) ∧ Only [] w w' := by
  have HA := Lib.hid fun w2 (o : Only [] w w2) => checkAll_any m off c (h.only o) hl
  have HG := Lib.hid fun w2 (o : Only [] w w2) => checkGroup_all c (h.only o) hl hcap f k
  obtain ⟨R, hR⟩ : ∃ R, allE m off l = R := ⟨_, rfl⟩
  obtain ⟨g, hg⟩ : ∃ g, gE l f k = g := ⟨_, rfl⟩
  rw [hR] at HA hb ⊢
  rw [hg] at HG hb ⊢
  clear hR h hg hcap
  have OA := Lib.hid (((Only.refl [] w).alloc (metBox m)).alloc (.cells #[.int .i64 f, .int .i64 k] 40))
  have BG := Lib.hid (Blk.new (w.alloc (metBox m)) 40 [.int .i64 f, .int .i64 k])
  rw [show (w.alloc (metBox m)).heap.size = w.heap.size + 1 by simp] at BG
  by_cases h0 : R = 0
  · subst h0
    rw [if_neg (by simp)]
    have h1 : g ≠ 0 := by rcases hb with h | h; exact absurd rfl h; exact h
    clear hb
    go_enter Try.func18, Try.ntmps18
    go_wp2_with (first
      | (go_at_call 23; refine (HA.out _ OA.out).mono ?_; rintro e w1 ⟨rfl, o1⟩; have O1 := Lib.hid (OA.out.trans o1); have bg := BG.out.only o1 (by simp); have q0 := bg.cell 0; have q1 := bg.cell 1; simp only [List.getElem?_cons_zero, List.getElem?_cons_succ] at q0 q1; clear bg)
      | (go_at_call 29; refine (HG.out _ O1.out).mono ?_; rintro e w2 ⟨rfl, o2⟩))
    go_ret2
    exact ⟨rfl, O1.out.trans o2⟩
  · rw [if_pos h0]
    clear hb
    go_enter Try.func18, Try.ntmps18
    go_wp2_with (go_at_call 23; refine (HA.out _ OA.out).mono ?_; rintro e w1 ⟨rfl, o1⟩; have O1 := Lib.hid (OA.out.trans o1))
    go_ret2
    exact ⟨rfl, O1.out⟩

set_option maxRecDepth 20000 in
set_option maxHeartbeats 400000000 in
theorem Segments_any {w : World} {A : Option Addr} {l : List Nt} (m : Met) (gs : List Int) (hG : GrpC m gs) (hgl : gs.length ≤ 64) (hg0 : 0 < gs.length) (hg : ∀ x ∈ gs, 0 ≤ x ∧ x ≤ 64) (off : Int) (c : Nat) (h : NotesAt w A l) (hl : l.length ≤ 128) (hcap : l.length ≤ c) (hb : allE m off l = 0) (F K : Nat) (hFK : F < K) (hKl : K < l.length) (hge : gE l F K = 0) :
    Calls Try.prog 18 #[metV m, .int .i64 off, .slice A l.length c, grpV F K] w fun e w' => ∃ v, e = .returned (.tuple #[v, .int .i64 0]) ∧ w'.ownsRow w.heap.size 49 4 v (segsTo m gs off l F K (mostTo l F (K - F + 1)).toNat).length (sCells (segsTo m gs off l F K (mostTo l F (K - F + 1)).toNat)) ∧ Only [] w w' := by
  obtain ⟨i0, hi0, hz0, hz1, hz2⟩ := info_parts seg_info
  obtain ⟨hck, hof, hnt, hlt⟩ := allE_zero hb
  have HA := Lib.hid fun w2 (o : Only [] w w2) => checkAll_any m off c (h.only o) hl
  have HG := Lib.hid fun w2 (o : Only [] w w2) => checkGroup_all c (h.only o) hl hcap F K
  rw [hb] at HA
  rw [hge] at HG
  have H := Lib.hid h
  have HOK := Lib.hid (ntE_ok l none hnt)
  have HFL : Hid (∀ i, 0 ≤ (ntAt l i).fl ∧ (ntAt l i).fl ≤ 6) := Lib.hid fun i => by
    by_cases hi : i < l.length
    · rw [show ntAt l i = l[i] by simp [ntAt, hi]]
      exact (ntE_ok l none hnt _ (List.getElem_mem _)).c2
    · rw [show ntAt l i = ⟨0, 0, 0, 0, 0, 0⟩ by simp [ntAt, hi]]
      exact ⟨Int.le_refl _, by decide⟩
  have HTR : Hid (∀ i, i < l.length → 0 ≤ off + (ntAt l i).t ∧ off + (ntAt l i).t ≤ 4398046511104) := Lib.hid fun i hi => by
    rw [show ntAt l i = l[i] by simp [ntAt, hi]]
    have := (ntE_ok l none hnt _ (List.getElem_mem hi)).c0
    have := hlt _ (List.getElem_mem hi)
    omega
  have HPL := Lib.hid fun (t : Int) (h1 : 0 ≤ t) (h2 : t ≤ 4398046511104) => place_any m hck gs hG hgl hg t h1 h2
  have HLV := Lib.hid fun (t : Int) (h1 : 0 ≤ t) (h2 : t ≤ 4398046511104) => blevel_any m hck gs hG hgl hg0 hg t h1 h2
  have OA := Lib.hid (((Only.refl [] w).alloc (metBox m)).alloc (.cells #[.int .i64 (F : Int), .int .i64 (K : Int)] 40))
  have BG := Lib.hid (Blk.new (w.alloc (metBox m)) 40 [.int .i64 (F : Int), .int .i64 (K : Int)])
  have BM := Lib.hid ((Blk.new w 36 (metL m)).alloc (.cells #[.int .i64 (F : Int), .int .i64 (K : Int)] 40))
  rw [show (w.alloc (metBox m)).heap.size = w.heap.size + 1 by simp] at BG
  have HF := Lib.hid hFK
  have HK := Lib.hid hKl
  have f0 : (0 : Int) ≤ (F : Int) := by omega
  have f1 : (F : Int) ≤ (K : Int) + 1 := by omega
  have f2 : (0 : Int) ≤ (K : Int) + 1 := by omega
  have f3 : (K : Int) + 1 ≤ (c : Int) := by omega
  have kk : IntKind.i64.wrap ((K : Int) + 1) = (K : Int) + 1 := IntWalk.i64_in _ (by omega)
  obtain ⟨n, hn2⟩ : ∃ n, K + 1 - F = n := ⟨_, rfl⟩
  obtain ⟨b0, off0, rfl, -, -⟩ := h F (by omega)
  clear h hb hge hck hnt hlt hG hg hgl hg0
  go_enter Try.func18, Try.ntmps18
  go_wp2_with (first
    | (go_at_call 23; refine (HA.out _ OA.out).mono ?_; rintro e w1 ⟨rfl, o1⟩; have O1 := Lib.hid (OA.out.trans o1); have BG1 := Lib.hid (BG.out.only o1 (by simp)); have BM1 := Lib.hid (BM.out.only o1 (by simp)); have q0 := BG1.out.cell 0; have q1 := BG1.out.cell 1; simp only [List.getElem?_cons_zero, List.getElem?_cons_succ] at q0 q1)
    | (go_at_call 29; refine (HG.out _ O1.out).mono ?_; rintro e w2 ⟨rfl, o2⟩; have O2 := Lib.hid (O1.out.trans o2); have BG2 := Lib.hid (BG1.out.only o2 (by simp)); have BM2 := Lib.hid (BM1.out.only o2 (by simp)); have q0 := BG2.out.cell 0; have q1 := BG2.out.cell 1; simp only [List.getElem?_cons_zero, List.getElem?_cons_succ] at q0 q1))
  have hsz := O2.out.size
  have HN := Lib.hid hn2
  have nn : n ≤ 128 := by omega
  clear q0 q1 f1 f2 f3 kk hn2 HA HG OA BG BM o1 o2
  go_loopw [13, 44] (fun mv i wr => ∃ j : Nat, j ≤ n ∧ i = .int .i64 j ∧ mv = .int .i64 (mostTo l F j) ∧ Only [] w2 wr) (fun _ i _ => n - (intOf i).toNat)
  case atStart => exact ⟨0, by omega, rfl, rfl, Only.refl _ _⟩
  case round =>
    obtain ⟨j, hj, rfl, rfl, hO⟩ := hrel
    by_cases hlt : j < n
    · have hi : F + j < l.length := by have := HN.out; have := HK.out; omega
      have ex : ntAt l (F + j) = l[F + j] := by simp [ntAt, hi]
      obtain ⟨b', off', hA', hb', hcs⟩ := (H.out.only (O2.out.trans hO)) (F + j) hi
      simp only [Option.some.injEq, Addr.mk.injEq, and_true] at hA'
      obtain ⟨rfl, rfl⟩ := hA'
      rw [show off0 + (F + j) * 6 = off0 + F * 6 + j * 6 by omega, ← ex] at hcs
      have m0 := hcs 0 (by omega)
      have m1 := hcs 1 (by omega)
      have m2 := hcs 2 (by omega)
      have m3 := hcs 3 (by omega)
      have m4 := hcs 4 (by omega)
      have m5 := hcs 5 (by omega)
      simp only [Nt.vs, List.getElem?_cons_zero, List.getElem?_cons_succ, Nat.add_zero] at m0 m1 m2 m3 m4 m5
      have HMS := Lib.hid (show mostTo l F (j + 1) = max (mostTo l F j) (ntAt l (F + j)).fl from rfl)
      obtain ⟨x, hx⟩ : ∃ x, ntAt l (F + j) = x := ⟨_, rfl⟩
      rw [hx] at m0 m1 m2 m3 m4 m5 HMS
      have j0 : (0 : Int) ≤ (j : Int) := by omega
      have j1 : (j : Int) < (n : Int) := by omega
      have HO := Lib.hid (hO.alloc (ntBox x))
      clear hcs hx ex hO hb' hi
      go_wp2_with fail
      go_roundw
      case rel => exact ⟨j + 1, by omega, by go_num, by rw [HMS.out], HO.out⟩
      case measure => simp [intOf]; omega
    · obtain rfl : j = n := by omega
      have HMM := Lib.hid (show mostTo l F (K - F + 1) = mostTo l F j by rw [show K - F + 1 = j by have := HN.out; have := HF.out; omega])
      have hmr := mostTo_rng (F := F) HFL.out j
      obtain ⟨M, hM⟩ : ∃ M, mostTo l F j = M := ⟨_, rfl⟩
      rw [hM] at HMM hmr ⊢
      obtain ⟨V, rfl⟩ : ∃ V, V = wr := ⟨_, rfl⟩
      have OV := Lib.hid (O2.out.trans hO)
      have BGV := Lib.hid (BG2.out.only hO (by simp))
      have BMV := Lib.hid (BM2.out.only hO (by simp))
      have hsv := OV.out.size
      clear hO hM hlt
      go_wp2_with fail
      go_loopw [12, 16] (fun o kv wr => ∃ (kk : Nat) (v : Value), (kk : Int) ≤ M ∧ kv = .int .i64 ((kk : Int) + 1) ∧ v = o ∧ wr.ownsRow V.heap.size 49 4 v (segsTo m gs off l F K kk).length (sCells (segsTo m gs off l F K kk)) ∧ Only [] V wr) (fun _ kv _ => (M + 1 - intOf kv).toNat)
      case atStart => exact ⟨0, _, by omega, by go_num, rfl, World.ownsRow_nil _ _ _ _, Only.refl _ _⟩
      case round =>
        obtain ⟨kk, v, hkk, rfl, rfl, hown, hO⟩ := hrel
        by_cases hkM : (kk : Int) + 1 ≤ M
        · have HKM := Lib.hid hkM
          have hbg := BGV.out.only hO (by simp)
          have q0 := hbg.cell 0
          have q1 := hbg.cell 1
          simp only [List.getElem?_cons_zero, List.getElem?_cons_succ] at q0 q1
          have HRK := Lib.hid (show segsTo m gs off l F K (kk + 1) = segsTo m gs off l F K kk ++ segK m gs off l F K ((kk : Int) + 1) F from rfl)
          have hlen := segsTo_len m gs off l F K (kk + 1)
          obtain ⟨RK, hRK⟩ : ∃ RK, segsTo m gs off l F K (kk + 1) = RK := ⟨_, rfl⟩
          rw [hRK] at HRK hlen
          have HKR := Lib.hid hRK
          have hkp : (kk + 1) * (K + 1) ≤ 6 * 128 := Nat.mul_le_mul (by omega) (by omega)
          have HLEN := Lib.hid (Nat.le_trans hlen hkp)
          obtain ⟨pre0, hpre⟩ : ∃ pre0, segsTo m gs off l F K kk = pre0 := ⟨_, rfl⟩
          rw [hpre] at HRK hown
          obtain ⟨k, hk⟩ : ∃ k, (kk : Int) + 1 = k := ⟨_, rfl⟩
          rw [hk] at HRK HKM hkM ⊢
          have HK0 := Lib.hid hk
          have hk1 : 1 ≤ k ∧ k ≤ 6 := by omega
          have HO := Lib.hid hO
          have HOWN := Lib.hid hown
          clear hlen hkp hRK hpre hk hbg hown hO
          obtain ⟨V2, rfl⟩ : ∃ V2, V2 = wr := ⟨_, rfl⟩
          go_wp2_with fail
          go_step3
          go_wp2_with fail
          go_step3
          go_wp2_with fail
          go_loopw [12, 17] (fun o fv wr => ∃ (i : Nat) (pre : List Sg) (v : Value), F ≤ i ∧ i ≤ K + 1 ∧ fv = .int .i64 i ∧ v = o ∧ Hid (pre ++ segK m gs off l F K k i = RK) ∧ wr.ownsRow V.heap.size 49 4 v pre.length (sCells pre) ∧ Only [] V wr) (fun _ fv _ => K + 1 - (intOf fv).toNat)
          case atStart => exact ⟨F, pre0, _, by omega, by omega, rfl, rfl, Lib.hid HRK.out.symm, HOWN.out, HO.out⟩
          case round =>
            obtain ⟨i, pre, v, hi1, hi2, rfl, rfl, HPR, hown, hO⟩ := hrel
            have hOO := hO
            have hbg := BGV.out.only hOO (by simp)
            have q0 := hbg.cell 0
            have q1 := hbg.cell 1
            simp only [List.getElem?_cons_zero, List.getElem?_cons_succ] at q0 q1
            by_cases hiK : i ≤ K
            · have hil : i < l.length := by omega
              have ex : ntAt l i = l[i] := by simp [ntAt, hil]
              obtain ⟨b', off', hA', hb', hcs⟩ := (H.out.only (OV.out.trans hOO)) i hil
              simp only [Option.some.injEq, Addr.mk.injEq, and_true] at hA'
              obtain ⟨rfl, rfl⟩ := hA'
              rw [← ex] at hcs
              have m2 := hcs 2 (by omega)
              simp only [Nt.vs, List.getElem?_cons_zero, List.getElem?_cons_succ, Nat.add_zero] at m2
              have HSK := Lib.hid fun hf => segF_skip (goesOn m gs off l k) (hookE m gs off l F K) (fun i => (ntAt l i).fl) k (K + 1) i (by omega) hf
              have HTK := Lib.hid fun hf => segF_take (goesOn m gs off l k) (hookE m gs off l F K) (fun i => (ntAt l i).fl) k (K + 1) i (by omega) hf
              obtain ⟨xf, hxf⟩ : ∃ xf, (ntAt l i).fl = xf := ⟨_, rfl⟩
              rw [hxf] at m2
              simp only [hxf] at HSK HTK
              have i0 : (0 : Int) ≤ (i : Int) := by omega
              have i1 : (i : Int) < (l.length : Int) := by omega
              have i2 : (i : Int) ≤ (K : Int) := by omega
              have HO3 := Lib.hid hO
              have HOW3 := Lib.hid hown
              have HII := Lib.hid hiK
              clear hcs hb' ex hxf hbg hOO hown hO
              obtain ⟨V3, rfl⟩ : ∃ V3, V3 = wr := ⟨_, rfl⟩
              by_cases hfk : xf < k
              · have HS := Lib.hid (HSK.out hfk)
                go_wp2_with fail
                go_roundw
                case rel => exact ⟨i + 1, pre, _, by omega, by have := HII.out; omega, by go_num, rfl, Lib.hid (by rw [← HPR.out]; unfold segK; rw [HS.out]), HOW3.out, HO3.out⟩
                case measure => have := HII.out; simp [intOf]; omega
              · have HT := Lib.hid (HTK.out hfk)
                have hKle := runK_le (goesOn m gs off l k) (K + 1) (K + 1) i
                obtain ⟨E, hE⟩ : ∃ E, runK (goesOn m gs off l k) (K + 1) (K + 1) i = E := ⟨_, rfl⟩
                rw [hE] at HT hKle
                have HE := Lib.hid hE
                clear hE
                go_wp2_with fail
                go_loopw [18] (fun ev wr => ∃ e : Nat, i ≤ e ∧ e ≤ K ∧ ev = .int .i64 e ∧ Hid (runK (goesOn m gs off l k) (K + 1) (K + 1) e = E) ∧ Only [] V3 wr) (fun ev _ => K - (intOf ev).toNat)
                case atStart => exact ⟨i, by omega, HII.out, rfl, HE, Only.refl _ _⟩
                case round =>
                  obtain ⟨e, he1, he2, rfl, HEE, hO4⟩ := hrel
                  have hO3 := HO3.out.trans hO4
                  have hOO := hO3
                  have hbg := BGV.out.only hOO (by simp)
                  have q0 := hbg.cell 0
                  have q1 := hbg.cell 1
                  simp only [List.getElem?_cons_zero, List.getElem?_cons_succ] at q0 q1
                  have HO4 := Lib.hid hO4
                  have e0 : (0 : Int) ≤ (e : Int) := by omega
                  by_cases heK : e < K
                  · have hil : e + 1 < l.length := by omega
                    have ex : ntAt l (e + 1) = l[e + 1] := by simp [ntAt, hil]
                    obtain ⟨b', off', hA', hb', hcs⟩ := (H.out.only (OV.out.trans hOO)) (e + 1) hil
                    simp only [Option.some.injEq, Addr.mk.injEq, and_true] at hA'
                    obtain ⟨rfl, rfl⟩ := hA'
                    rw [← ex] at hcs
                    have m0 := hcs 0 (by omega)
                    have m2 := hcs 2 (by omega)
                    simp only [Nt.vs, List.getElem?_cons_zero, List.getElem?_cons_succ, Nat.add_zero] at m0 m2
                    have htr := HTR.out (e + 1) hil
                    have HP := Lib.hid (HPL.out (off + (ntAt l (e + 1)).t) htr.1 htr.2)
                    have HC : Hid (goesOn m gs off l k e = (decide (k ≤ (ntAt l (e + 1)).fl) && !(decide (1 < k) && ((plc m gs (off + (ntAt l (e + 1)).t)).2.2 == 0)))) := Lib.hid rfl
                    obtain ⟨y, hy⟩ : ∃ y, ntAt l (e + 1) = y := ⟨_, rfl⟩
                    rw [hy] at m0 m2 HP HC htr
                    obtain ⟨pp, hpp⟩ : ∃ pp, plc m gs (off + y.t) = pp := ⟨_, rfl⟩
                    rw [hpp] at HP HC
                    obtain ⟨pa, pb, pc⟩ := pp
                    dsimp only at HP HC
                    have wy : IntKind.i64.wrap (off + y.t) = off + y.t := IntWalk.i64_in _ (by omega)
                    have e1 : (e : Int) < (K : Int) := by omega
                    have e2 : (0 : Int) ≤ (e : Int) + 1 := by omega
                    have e3 : (e : Int) + 1 < (l.length : Int) := by omega
                    have hmc := (met_cells BMV.out hOO)
                    obtain ⟨bmr, c0, c1, c2, c3, c4, c5, c6, c7⟩ := hmc
                    have BMR := Lib.hid bmr
                    have HEK := Lib.hid heK
                    clear hcs ex hy hpp hbg hOO hO3 hO4 htr bmr
                    have k0 : ∀ i : Near [] wr, i.W.cell? ⟨b0, off0 + (e + 1) * 6, none⟩ = some (.int .i64 y.t) := fun i => (i.only.cell (by assumption) (by simp)).trans m0
                    obtain ⟨n0, n1, n2, n3, n4, n5, n6, n7⟩ := met_near BMR.out
                    by_cases hky : k ≤ y.fl
                    · obtain ⟨r1, hr1⟩ : ∃ r1, decide (1 < k) = r1 := ⟨_, rfl⟩
                      obtain ⟨r2, hr2⟩ : ∃ r2, (pc == 0) = r2 := ⟨_, rfl⟩
                      have HC2 := Lib.hid (show goesOn m gs off l k e = !(r1 && r2) by rw [HC.out, hr1, hr2, decide_eq_true hky, Bool.true_and])
                      go_wp2_with fail
                      refine wp_near [] (by kernel_rfl) (by kernel_rfl) ?_
                      repeat (go_big_quiet_step ((go_at_call 25; exact near_call _ (HP.out _))))
                      refine wpQuiet_nil ?_
                      intro ni
                      obtain ⟨WQ, pq⟩ := ni
                      dsimp only
                      have OX := Lib.hid (HO4.out.trans pq)
                      clear n0 n1 n2 n3 n4 n5 n6 n7 k0 c0 c1 c2 c3 c4 c5 c6 c7 m0 m2 HP HC pq q0 q1
                      cases r1
                      · have HER := Lib.hid (show runK (goesOn m gs off l k) (K + 1) (K + 1) (e + 1) = E by rw [← HEE.out]; exact (runK_step _ _ _ (by omega) (by rw [HC2.out]; simp)).symm)
                        go_wp2_with fail
                        go_roundw
                        case rel => exact ⟨e + 1, by omega, by have := HEK.out; omega, by go_num, HER, OX.out⟩
                        case measure => have := HEK.out; simp [intOf]; omega
                      · cases r2
                        · have HER := Lib.hid (show runK (goesOn m gs off l k) (K + 1) (K + 1) (e + 1) = E by rw [← HEE.out]; exact (runK_step _ _ _ (by omega) (by rw [HC2.out]; simp)).symm)
                          go_wp2_with fail
                          go_roundw
                          case rel => exact ⟨e + 1, by omega, by have := HEK.out; omega, by go_num, HER, OX.out⟩
                          case measure => have := HEK.out; simp [intOf]; omega
                        · have EE := Lib.hid (show e = E by rw [← HEE.out, runK_end _ _ _ (by omega) (by rw [HC2.out]; simp)])
                          have OW2 := Lib.hid (HO3.out.trans OX.out)
                          have OWV := OW2
                          have OWN := Lib.hid (own_only HOW3.out OX.out (by simp))
                          have HOB := Lib.hid (fun q hq => (OWN.out.lt q hq).1)
                          have hpl : pre.length ≤ 768 := by
                            have h1 := HLEN.out
                            have h2 := congrArg List.length HPR.out
                            rw [List.length_append] at h2
                            omega
                          have hwz := OWV.out.size
                          have hbg := BGV.out.only OWV.out (by simp)
                          have HEK2 := Lib.hid (show e ≤ K by omega)
                          by_cases hie : i = e
                          · subst hie
                            have HH0 : Hid (hookE m gs off l F K i i = if i = F ∨ i < K ∧ levE m gs ((off + (ntAt l i).t) % m.len) < levE m gs ((off + (ntAt l (i + 1)).t) % m.len) then 1 else -1) := Lib.hid (by unfold hookE; rw [if_pos rfl])
                            have z1 : ((i : Int) == (i : Int)) = true := by simp
                            have OB := Lib.hid (OWV.out.alloc (.cells #[.int .i64 k, .int .i64 i, .int .i64 i, .int .i64 (-1)] 49))
                            have BS := Lib.hid (Blk.new WQ 49 [.int .i64 k, .int .i64 i, .int .i64 i, .int .i64 (-1)])
                            have BG9 := Lib.hid (BGV.out.only OB.out (by simp))
                            have BM9 := Lib.hid (BMV.out.only OB.out (by simp))
                            have hil : i < l.length := by have := HII.out; have := HK.out; omega
                            have trl := HTR.out i hil
                            have ex9 : ntAt l i = l[i] := by simp [ntAt, hil]
                            obtain ⟨b9, off9, hA9, hb9, hcs9⟩ := (H.out.only (OV.out.trans OB.out)) i hil
                            simp only [Option.some.injEq, Addr.mk.injEq, and_true] at hA9
                            obtain ⟨rfl, rfl⟩ := hA9
                            rw [← ex9] at hcs9
                            have u0 := hcs9 0 (by omega)
                            simp only [Nt.vs, List.getElem?_cons_zero, Nat.add_zero] at u0
                            have HLA := Lib.hid (HLV.out (off + (ntAt l i).t) trl.1 trl.2)
                            obtain ⟨la, hla⟩ : ∃ la, levE m gs ((off + (ntAt l i).t) % m.len) = la := ⟨_, rfl⟩
                            rw [hla] at HLA HH0
                            obtain ⟨ti, hti⟩ : ∃ ti, (ntAt l i).t = ti := ⟨_, rfl⟩
                            rw [hti] at HLA u0 trl
                            have wti : IntKind.i64.wrap (off + ti) = off + ti := IntWalk.i64_in _ (by omega)
                            have g0 : ∀ x : Near [] (WQ.alloc (.cells #[.int .i64 k, .int .i64 i, .int .i64 i, .int .i64 (-1)] 49)), x.W.cell? ⟨w.heap.size + 1, 0, none⟩ = some (.int .i64 (F : Int)) := fun x => (BG9.out.only x.only (by simp)).cell 0
                            have g1 : ∀ x : Near [] (WQ.alloc (.cells #[.int .i64 k, .int .i64 i, .int .i64 i, .int .i64 (-1)] 49)), x.W.cell? ⟨w.heap.size + 1, 1, none⟩ = some (.int .i64 (K : Int)) := fun x => (BG9.out.only x.only (by simp)).cell 1
                            obtain ⟨n0, n1, n2, n3, n4, n5, n6, n7⟩ := met_near BM9.out
                            have v0 : ∀ x : Near [] (WQ.alloc (.cells #[.int .i64 k, .int .i64 i, .int .i64 i, .int .i64 (-1)] 49)), x.W.cell? ⟨b0, off0 + i * 6, none⟩ = some (.int .i64 ti) := fun x => (x.only.cell hb9 (by simp)).trans u0
                            have S9 := Lib.hid BS.out
                            clear hbg hcs9 ex9 hla hti u0
                            by_cases hiF : i = F
                            · have HHK := Lib.hid (show hookE m gs off l F K i i = 1 by rw [HH0.out, if_pos (.inl hiF)])
                              have zF : ((i : Int) == (F : Int)) = true := by simp [hiF]
                              have zFn : (i == F) = true := by simp [hiF]
                              clear hiF
                              go_wp2_with fail
                              refine wp_near [] (by kernel_rfl) (by kernel_rfl) ?_
                              repeat (go_big_quiet_step (fail))
                              refine wpQuiet_nil ?_
                              intro nj
                              obtain ⟨WS, ps⟩ := nj
                              dsimp only
                              have BT := Lib.hid (S9.out.only ps (by simp))
                              have OT := Lib.hid (OB.out.trans ps)
                              have OWT := Lib.hid ((own_only (OWN.out.alloc (.cells #[.int .i64 k, .int .i64 i, .int .i64 i, .int .i64 (-1)] 49)) ps (by simp)))
                              have hts := OT.out.size
                              have hts2 := ps.size
                              have y0 := BT.out.cell 0
                              have y1 := BT.out.cell 1
                              have y2 := BT.out.cell 2
                              have y3 := BT.out.cell 3
                              have y4 := BT.out.frozen 3
                              simp only [List.getElem?_cons_zero, List.getElem?_cons_succ] at y0 y1 y2 y3
                              have BU := Lib.hid (BT.out.set_ 3 (.int .i64 1))
                              have OU := Lib.hid (OT.out.setCell (p := ⟨WQ.heap.size, 3, none⟩) (.inr (by omega)) (.int .i64 1))
                              have OWU := Lib.hid (own_set OWT.out (p := ⟨WQ.heap.size, 3, none⟩) (by
                                intro q hq
                                have := (OWN.out.lt q hq).2
                                show q ≠ WQ.heap.size
                                omega) (.int .i64 1))
                              have x0 := BU.out.cell 0
                              have x1 := BU.out.cell 1
                              have x2 := BU.out.cell 2
                              have x3 := BU.out.cell 3
                              simp only [List.set_cons_zero, List.set_cons_succ, List.getElem?_cons_zero, List.getElem?_cons_succ] at x0 x1 x2 x3
                              have HNEWS := Lib.hid (World.news_of_block (heap_alloc_new (WS.setCell ⟨WQ.heap.size, 3, none⟩ (.int .i64 1)) (.cells #[.int .i64 k, .int .i64 i, .int .i64 i, .int .i64 1] 49)))
                              rw [show (WS.setCell ⟨WQ.heap.size, 3, none⟩ (.int .i64 1)).heap.size = WS.heap.size by simp [World.setCell]] at HNEWS
                              clear n0 n1 n2 n3 n4 n5 n6 n7 v0 g0 g1 ps
                              go_wp2_with (at_builtin; refine wpList_append_lies _ rfl _ _ _ rfl V.heap.size 49 _ _ 4 32 Try.underlying44 hi0 hz0 hz1 hz2 rfl (by omega) v pre.length _ rfl (OWU.out.alloc _) ⟨WS.heap.size, 0, none⟩ 1 1 [.int .i64 k, .int .i64 i, .int .i64 i, .int .i64 (1)] rfl rfl HNEWS.out (by simp [Value.oneCell']) (by omega) (by simp only [maxLen]; omega) (by omega) (by simp [World.setCell]; omega) (WS.heap.size + 1) (by simp [World.setCell]) ?_; intro gg cap w5 hown5 hgrow hat hlt5)
                              go_roundw
                              case rel =>
                                refine ⟨i + 1, pre ++ [⟨k, i, i, (1)⟩], _, by omega, by have := HEK2.out; omega, by go_num, rfl, Lib.hid ?_, ?_, (OU.out.alloc _).grown hgrow fun q hq => .inr (HOB.out q hq)⟩
                                · rw [← HPR.out]
                                  unfold segK
                                  rw [HT.out, ← EE.out, HHK.out, List.append_assoc]
                                  rfl
                                · rw [sCells_snoc, List.length_append]
                                  exact hown5
                              case measure => have := HII.out; simp [intOf]; omega
                            · have zF : ((i : Int) == (F : Int)) = false := by
                                have : ¬ ((i : Int) = (F : Int)) := by omega
                                simpa using this
                              have zFn : (i == F) = false := by simpa using hiF
                              by_cases hiK2 : i < K
                              · have zK : decide ((i : Int) < (K : Int)) = true := decide_eq_true (by omega)
                                have zKn : decide (i < K) = true := decide_eq_true hiK2
                                have hil2 : i + 1 < l.length := by have := HK.out; omega
                                have trl2 := HTR.out (i + 1) hil2
                                have ex8 : ntAt l (i + 1) = l[i + 1] := by simp [ntAt, hil2]
                                obtain ⟨b8, off8, hA8, hb8, hcs8⟩ := (H.out.only (OV.out.trans OB.out)) (i + 1) hil2
                                simp only [Option.some.injEq, Addr.mk.injEq, and_true] at hA8
                                obtain ⟨rfl, rfl⟩ := hA8
                                rw [← ex8] at hcs8
                                have u1 := hcs8 0 (by omega)
                                simp only [Nt.vs, List.getElem?_cons_zero, Nat.add_zero] at u1
                                have HLB := Lib.hid (HLV.out (off + (ntAt l (i + 1)).t) trl2.1 trl2.2)
                                obtain ⟨lb, hlb⟩ : ∃ lb, levE m gs ((off + (ntAt l (i + 1)).t) % m.len) = lb := ⟨_, rfl⟩
                                rw [hlb] at HLB HH0
                                obtain ⟨tj, htj⟩ : ∃ tj, (ntAt l (i + 1)).t = tj := ⟨_, rfl⟩
                                rw [htj] at HLB u1 trl2
                                have wtj : IntKind.i64.wrap (off + tj) = off + tj := IntWalk.i64_in _ (by omega)
                                have v1 : ∀ x : Near [] (WQ.alloc (.cells #[.int .i64 k, .int .i64 i, .int .i64 i, .int .i64 (-1)] 49)), x.W.cell? ⟨b0, off0 + (i + 1) * 6, none⟩ = some (.int .i64 tj) := fun x => (x.only.cell hb8 (by simp)).trans u1
                                have i8 : (0 : Int) ≤ (i : Int) + 1 := by omega
                                have i9 : (i : Int) + 1 < (l.length : Int) := by omega
                                obtain ⟨r9, hr9⟩ : ∃ r9, decide (la < lb) = r9 := ⟨_, rfl⟩
                                have HR9 := Lib.hid hr9
                                clear hcs8 ex8 hlb htj u1 
                                cases r9
                                · have HHK := Lib.hid (show hookE m gs off l F K i i = -1 by rw [HH0.out, if_neg (by have := of_decide_eq_false HR9.out; omega)])
                                  go_wp2_with fail
                                  refine wp_near [] (by kernel_rfl) (by kernel_rfl) ?_
                                  repeat (go_big_quiet_step ((first | (go_at_call 34; with_reducible exact near_call _ (HLA.out _)) | (go_at_call 34; with_reducible exact near_call _ (HLB.out _)))))
                                  refine wpQuiet_nil ?_
                                  intro nj
                                  obtain ⟨WS, ps⟩ := nj
                                  dsimp only
                                  have BT := Lib.hid (S9.out.only ps (by simp))
                                  have OT := Lib.hid (OB.out.trans ps)
                                  have OWT := Lib.hid ((own_only (OWN.out.alloc (.cells #[.int .i64 k, .int .i64 i, .int .i64 i, .int .i64 (-1)] 49)) ps (by simp)))
                                  have hts := OT.out.size
                                  have hts2 := ps.size
                                  have y0 := BT.out.cell 0
                                  have y1 := BT.out.cell 1
                                  have y2 := BT.out.cell 2
                                  have y3 := BT.out.cell 3
                                  have y4 := BT.out.frozen 3
                                  simp only [List.getElem?_cons_zero, List.getElem?_cons_succ] at y0 y1 y2 y3
                                  have OU := OT
                                  have OWU := OWT
                                  have HNEWS := Lib.hid (World.news_of_block (heap_alloc_new WS (.cells #[.int .i64 k, .int .i64 i, .int .i64 i, .int .i64 (-1)] 49)))
                                  clear n0 n1 n2 n3 n4 n5 n6 n7 v0 g0 g1 ps
                                  go_wp2_with (at_builtin; refine wpList_append_lies _ rfl _ _ _ rfl V.heap.size 49 _ _ 4 32 Try.underlying44 hi0 hz0 hz1 hz2 rfl (by omega) v pre.length _ rfl (OWU.out.alloc _) ⟨WS.heap.size, 0, none⟩ 1 1 [.int .i64 k, .int .i64 i, .int .i64 i, .int .i64 (-1)] rfl rfl HNEWS.out (by simp [Value.oneCell']) (by omega) (by simp only [maxLen]; omega) (by omega) (by simp [World.setCell]; omega) (WS.heap.size + 1) (by simp [World.setCell]) ?_; intro gg cap w5 hown5 hgrow hat hlt5)
                                  go_roundw
                                  case rel =>
                                    refine ⟨i + 1, pre ++ [⟨k, i, i, (-1)⟩], _, by omega, by have := HEK2.out; omega, by go_num, rfl, Lib.hid ?_, ?_, (OU.out.alloc _).grown hgrow fun q hq => .inr (HOB.out q hq)⟩
                                    · rw [← HPR.out]
                                      unfold segK
                                      rw [HT.out, ← EE.out, HHK.out, List.append_assoc]
                                      rfl
                                    · rw [sCells_snoc, List.length_append]
                                      exact hown5
                                  case measure => have := HII.out; simp [intOf]; omega
                                · have HHK := Lib.hid (show hookE m gs off l F K i i = 1 by rw [HH0.out, if_pos (by have := of_decide_eq_true HR9.out; omega)])
                                  go_wp2_with fail
                                  refine wp_near [] (by kernel_rfl) (by kernel_rfl) ?_
                                  repeat (go_big_quiet_step ((first | (go_at_call 34; with_reducible exact near_call _ (HLA.out _)) | (go_at_call 34; with_reducible exact near_call _ (HLB.out _)))))
                                  refine wpQuiet_nil ?_
                                  intro nj
                                  obtain ⟨WS, ps⟩ := nj
                                  dsimp only
                                  have BT := Lib.hid (S9.out.only ps (by simp))
                                  have OT := Lib.hid (OB.out.trans ps)
                                  have OWT := Lib.hid ((own_only (OWN.out.alloc (.cells #[.int .i64 k, .int .i64 i, .int .i64 i, .int .i64 (-1)] 49)) ps (by simp)))
                                  have hts := OT.out.size
                                  have hts2 := ps.size
                                  have y0 := BT.out.cell 0
                                  have y1 := BT.out.cell 1
                                  have y2 := BT.out.cell 2
                                  have y3 := BT.out.cell 3
                                  have y4 := BT.out.frozen 3
                                  simp only [List.getElem?_cons_zero, List.getElem?_cons_succ] at y0 y1 y2 y3
                                  have BU := Lib.hid (BT.out.set_ 3 (.int .i64 1))
                                  have OU := Lib.hid (OT.out.setCell (p := ⟨WQ.heap.size, 3, none⟩) (.inr (by omega)) (.int .i64 1))
                                  have OWU := Lib.hid (own_set OWT.out (p := ⟨WQ.heap.size, 3, none⟩) (by
                                    intro q hq
                                    have := (OWN.out.lt q hq).2
                                    show q ≠ WQ.heap.size
                                    omega) (.int .i64 1))
                                  have x0 := BU.out.cell 0
                                  have x1 := BU.out.cell 1
                                  have x2 := BU.out.cell 2
                                  have x3 := BU.out.cell 3
                                  simp only [List.set_cons_zero, List.set_cons_succ, List.getElem?_cons_zero, List.getElem?_cons_succ] at x0 x1 x2 x3
                                  have HNEWS := Lib.hid (World.news_of_block (heap_alloc_new (WS.setCell ⟨WQ.heap.size, 3, none⟩ (.int .i64 1)) (.cells #[.int .i64 k, .int .i64 i, .int .i64 i, .int .i64 1] 49)))
                                  rw [show (WS.setCell ⟨WQ.heap.size, 3, none⟩ (.int .i64 1)).heap.size = WS.heap.size by simp [World.setCell]] at HNEWS
                                  clear n0 n1 n2 n3 n4 n5 n6 n7 v0 g0 g1 ps
                                  go_wp2_with (at_builtin; refine wpList_append_lies _ rfl _ _ _ rfl V.heap.size 49 _ _ 4 32 Try.underlying44 hi0 hz0 hz1 hz2 rfl (by omega) v pre.length _ rfl (OWU.out.alloc _) ⟨WS.heap.size, 0, none⟩ 1 1 [.int .i64 k, .int .i64 i, .int .i64 i, .int .i64 (1)] rfl rfl HNEWS.out (by simp [Value.oneCell']) (by omega) (by simp only [maxLen]; omega) (by omega) (by simp [World.setCell]; omega) (WS.heap.size + 1) (by simp [World.setCell]) ?_; intro gg cap w5 hown5 hgrow hat hlt5)
                                  go_roundw
                                  case rel =>
                                    refine ⟨i + 1, pre ++ [⟨k, i, i, (1)⟩], _, by omega, by have := HEK2.out; omega, by go_num, rfl, Lib.hid ?_, ?_, (OU.out.alloc _).grown hgrow fun q hq => .inr (HOB.out q hq)⟩
                                    · rw [← HPR.out]
                                      unfold segK
                                      rw [HT.out, ← EE.out, HHK.out, List.append_assoc]
                                      rfl
                                    · rw [sCells_snoc, List.length_append]
                                      exact hown5
                                  case measure => have := HII.out; simp [intOf]; omega
                              · exact absurd HEK.out hiK2
                          · have HHK := Lib.hid (show hookE m gs off l F K i e = 0 by unfold hookE; rw [if_neg hie])
                            have z1 : ((i : Int) == (e : Int)) = false := by
                              have : ¬ ((i : Int) = (e : Int)) := by omega
                              simpa using this
                            have z1n : (i == e) = false := by simpa using hie
                            have HNEWS := Lib.hid (World.news_of_block (heap_alloc_new (WQ.alloc (.cells #[.int .i64 k, .int .i64 i, .int .i64 e, .int .i64 0] 49)) (.cells #[.int .i64 k, .int .i64 i, .int .i64 e, .int .i64 0] 49)))
                            rw [show (WQ.alloc (.cells #[.int .i64 k, .int .i64 i, .int .i64 e, .int .i64 0] 49)).heap.size = WQ.heap.size + 1 by simp] at HNEWS
                            have q0 := hbg.cell 0
                            have q1 := hbg.cell 1
                            simp only [List.getElem?_cons_zero, List.getElem?_cons_succ] at q0 q1
                            clear hbg
                            go_wp2_with (at_builtin; refine wpList_append_lies _ rfl _ _ _ rfl V.heap.size 49 _ _ 4 32 Try.underlying44 hi0 hz0 hz1 hz2 rfl (by omega) v pre.length _ rfl ((OWN.out.alloc _).alloc _) ⟨WQ.heap.size + 1, 0, none⟩ 1 1 [.int .i64 k, .int .i64 i, .int .i64 e, .int .i64 0] rfl rfl HNEWS.out (by simp [Value.oneCell']) (by omega) (by simp only [maxLen]; omega) (by omega) (by simp; omega) (WQ.heap.size + 1 + 1) (by simp) ?_; intro gg cap w5 hown5 hgrow hat hlt5)
                            go_roundw
                            case rel =>
                              refine ⟨e + 1, pre ++ [⟨k, i, e, 0⟩], _, by omega, by have := HEK2.out; omega, by go_num, rfl, Lib.hid ?_, ?_, ((OW2.out.alloc _).alloc _).grown hgrow fun q hq => .inr (HOB.out q hq)⟩
                              · rw [← HPR.out]
                                unfold segK
                                rw [HT.out, ← EE.out, HHK.out, List.append_assoc]
                                rfl
                              · rw [sCells_snoc, List.length_append]
                                exact hown5
                            case measure => have := HII.out; simp [intOf]; omega
                    · have HC2 := Lib.hid (show goesOn m gs off l k e = false by rw [HC.out, decide_eq_false hky, Bool.false_and])
                      have EE := Lib.hid (show e = E by rw [← HEE.out, runK_end _ _ _ (by omega) (by rw [HC2.out]; simp)])
                      have OX := HO4
                      clear n0 n1 n2 n3 n4 n5 n6 n7 k0 c0 c1 c2 c3 c4 c5 c6 c7 HP HC
                      have OW2 := Lib.hid (HO3.out.trans OX.out)
                      have OWV := OW2
                      have OWN := Lib.hid (own_only HOW3.out OX.out (by simp))
                      have HOB := Lib.hid (fun q hq => (OWN.out.lt q hq).1)
                      have hpl : pre.length ≤ 768 := by
                        have h1 := HLEN.out
                        have h2 := congrArg List.length HPR.out
                        rw [List.length_append] at h2
                        omega
                      have hwz := OWV.out.size
                      have hbg := BGV.out.only OWV.out (by simp)
                      have HEK2 := Lib.hid (show e ≤ K by omega)
                      by_cases hie : i = e
                      · subst hie
                        have HH0 : Hid (hookE m gs off l F K i i = if i = F ∨ i < K ∧ levE m gs ((off + (ntAt l i).t) % m.len) < levE m gs ((off + (ntAt l (i + 1)).t) % m.len) then 1 else -1) := Lib.hid (by unfold hookE; rw [if_pos rfl])
                        have z1 : ((i : Int) == (i : Int)) = true := by simp
                        have OB := Lib.hid (OWV.out.alloc (.cells #[.int .i64 k, .int .i64 i, .int .i64 i, .int .i64 (-1)] 49))
                        have BS := Lib.hid (Blk.new wr 49 [.int .i64 k, .int .i64 i, .int .i64 i, .int .i64 (-1)])
                        have BG9 := Lib.hid (BGV.out.only OB.out (by simp))
                        have BM9 := Lib.hid (BMV.out.only OB.out (by simp))
                        have hil : i < l.length := by have := HII.out; have := HK.out; omega
                        have trl := HTR.out i hil
                        have ex9 : ntAt l i = l[i] := by simp [ntAt, hil]
                        obtain ⟨b9, off9, hA9, hb9, hcs9⟩ := (H.out.only (OV.out.trans OB.out)) i hil
                        simp only [Option.some.injEq, Addr.mk.injEq, and_true] at hA9
                        obtain ⟨rfl, rfl⟩ := hA9
                        rw [← ex9] at hcs9
                        have u0 := hcs9 0 (by omega)
                        simp only [Nt.vs, List.getElem?_cons_zero, Nat.add_zero] at u0
                        have HLA := Lib.hid (HLV.out (off + (ntAt l i).t) trl.1 trl.2)
                        obtain ⟨la, hla⟩ : ∃ la, levE m gs ((off + (ntAt l i).t) % m.len) = la := ⟨_, rfl⟩
                        rw [hla] at HLA HH0
                        obtain ⟨ti, hti⟩ : ∃ ti, (ntAt l i).t = ti := ⟨_, rfl⟩
                        rw [hti] at HLA u0 trl
                        have wti : IntKind.i64.wrap (off + ti) = off + ti := IntWalk.i64_in _ (by omega)
                        have g0 : ∀ x : Near [] (wr.alloc (.cells #[.int .i64 k, .int .i64 i, .int .i64 i, .int .i64 (-1)] 49)), x.W.cell? ⟨w.heap.size + 1, 0, none⟩ = some (.int .i64 (F : Int)) := fun x => (BG9.out.only x.only (by simp)).cell 0
                        have g1 : ∀ x : Near [] (wr.alloc (.cells #[.int .i64 k, .int .i64 i, .int .i64 i, .int .i64 (-1)] 49)), x.W.cell? ⟨w.heap.size + 1, 1, none⟩ = some (.int .i64 (K : Int)) := fun x => (BG9.out.only x.only (by simp)).cell 1
                        obtain ⟨n0, n1, n2, n3, n4, n5, n6, n7⟩ := met_near BM9.out
                        have v0 : ∀ x : Near [] (wr.alloc (.cells #[.int .i64 k, .int .i64 i, .int .i64 i, .int .i64 (-1)] 49)), x.W.cell? ⟨b0, off0 + i * 6, none⟩ = some (.int .i64 ti) := fun x => (x.only.cell hb9 (by simp)).trans u0
                        have S9 := Lib.hid BS.out
                        clear hbg hcs9 ex9 hla hti u0
                        by_cases hiF : i = F
                        · have HHK := Lib.hid (show hookE m gs off l F K i i = 1 by rw [HH0.out, if_pos (.inl hiF)])
                          have zF : ((i : Int) == (F : Int)) = true := by simp [hiF]
                          have zFn : (i == F) = true := by simp [hiF]
                          clear hiF
                          go_wp2_with fail
                          refine wp_near [] (by kernel_rfl) (by kernel_rfl) ?_
                          repeat (go_big_quiet_step (fail))
                          refine wpQuiet_nil ?_
                          intro nj
                          obtain ⟨WS, ps⟩ := nj
                          dsimp only
                          have BT := Lib.hid (S9.out.only ps (by simp))
                          have OT := Lib.hid (OB.out.trans ps)
                          have OWT := Lib.hid ((own_only (OWN.out.alloc (.cells #[.int .i64 k, .int .i64 i, .int .i64 i, .int .i64 (-1)] 49)) ps (by simp)))
                          have hts := OT.out.size
                          have hts2 := ps.size
                          have y0 := BT.out.cell 0
                          have y1 := BT.out.cell 1
                          have y2 := BT.out.cell 2
                          have y3 := BT.out.cell 3
                          have y4 := BT.out.frozen 3
                          simp only [List.getElem?_cons_zero, List.getElem?_cons_succ] at y0 y1 y2 y3
                          have BU := Lib.hid (BT.out.set_ 3 (.int .i64 1))
                          have OU := Lib.hid (OT.out.setCell (p := ⟨wr.heap.size, 3, none⟩) (.inr (by omega)) (.int .i64 1))
                          have OWU := Lib.hid (own_set OWT.out (p := ⟨wr.heap.size, 3, none⟩) (by
                            intro q hq
                            have := (OWN.out.lt q hq).2
                            show q ≠ wr.heap.size
                            omega) (.int .i64 1))
                          have x0 := BU.out.cell 0
                          have x1 := BU.out.cell 1
                          have x2 := BU.out.cell 2
                          have x3 := BU.out.cell 3
                          simp only [List.set_cons_zero, List.set_cons_succ, List.getElem?_cons_zero, List.getElem?_cons_succ] at x0 x1 x2 x3
                          have HNEWS := Lib.hid (World.news_of_block (heap_alloc_new (WS.setCell ⟨wr.heap.size, 3, none⟩ (.int .i64 1)) (.cells #[.int .i64 k, .int .i64 i, .int .i64 i, .int .i64 1] 49)))
                          rw [show (WS.setCell ⟨wr.heap.size, 3, none⟩ (.int .i64 1)).heap.size = WS.heap.size by simp [World.setCell]] at HNEWS
                          clear n0 n1 n2 n3 n4 n5 n6 n7 v0 g0 g1 ps
                          go_wp2_with (at_builtin; refine wpList_append_lies _ rfl _ _ _ rfl V.heap.size 49 _ _ 4 32 Try.underlying44 hi0 hz0 hz1 hz2 rfl (by omega) v pre.length _ rfl (OWU.out.alloc _) ⟨WS.heap.size, 0, none⟩ 1 1 [.int .i64 k, .int .i64 i, .int .i64 i, .int .i64 (1)] rfl rfl HNEWS.out (by simp [Value.oneCell']) (by omega) (by simp only [maxLen]; omega) (by omega) (by simp [World.setCell]; omega) (WS.heap.size + 1) (by simp [World.setCell]) ?_; intro gg cap w5 hown5 hgrow hat hlt5)
                          go_roundw
                          case rel =>
                            refine ⟨i + 1, pre ++ [⟨k, i, i, (1)⟩], _, by omega, by have := HEK2.out; omega, by go_num, rfl, Lib.hid ?_, ?_, (OU.out.alloc _).grown hgrow fun q hq => .inr (HOB.out q hq)⟩
                            · rw [← HPR.out]
                              unfold segK
                              rw [HT.out, ← EE.out, HHK.out, List.append_assoc]
                              rfl
                            · rw [sCells_snoc, List.length_append]
                              exact hown5
                          case measure => have := HII.out; simp [intOf]; omega
                        · have zF : ((i : Int) == (F : Int)) = false := by
                            have : ¬ ((i : Int) = (F : Int)) := by omega
                            simpa using this
                          have zFn : (i == F) = false := by simpa using hiF
                          by_cases hiK2 : i < K
                          · have zK : decide ((i : Int) < (K : Int)) = true := decide_eq_true (by omega)
                            have zKn : decide (i < K) = true := decide_eq_true hiK2
                            have hil2 : i + 1 < l.length := by have := HK.out; omega
                            have trl2 := HTR.out (i + 1) hil2
                            have ex8 : ntAt l (i + 1) = l[i + 1] := by simp [ntAt, hil2]
                            obtain ⟨b8, off8, hA8, hb8, hcs8⟩ := (H.out.only (OV.out.trans OB.out)) (i + 1) hil2
                            simp only [Option.some.injEq, Addr.mk.injEq, and_true] at hA8
                            obtain ⟨rfl, rfl⟩ := hA8
                            rw [← ex8] at hcs8
                            have u1 := hcs8 0 (by omega)
                            simp only [Nt.vs, List.getElem?_cons_zero, Nat.add_zero] at u1
                            have HLB := Lib.hid (HLV.out (off + (ntAt l (i + 1)).t) trl2.1 trl2.2)
                            obtain ⟨lb, hlb⟩ : ∃ lb, levE m gs ((off + (ntAt l (i + 1)).t) % m.len) = lb := ⟨_, rfl⟩
                            rw [hlb] at HLB HH0
                            obtain ⟨tj, htj⟩ : ∃ tj, (ntAt l (i + 1)).t = tj := ⟨_, rfl⟩
                            rw [htj] at HLB u1 trl2
                            have wtj : IntKind.i64.wrap (off + tj) = off + tj := IntWalk.i64_in _ (by omega)
                            have v1 : ∀ x : Near [] (wr.alloc (.cells #[.int .i64 k, .int .i64 i, .int .i64 i, .int .i64 (-1)] 49)), x.W.cell? ⟨b0, off0 + (i + 1) * 6, none⟩ = some (.int .i64 tj) := fun x => (x.only.cell hb8 (by simp)).trans u1
                            have i8 : (0 : Int) ≤ (i : Int) + 1 := by omega
                            have i9 : (i : Int) + 1 < (l.length : Int) := by omega
                            obtain ⟨r9, hr9⟩ : ∃ r9, decide (la < lb) = r9 := ⟨_, rfl⟩
                            have HR9 := Lib.hid hr9
                            clear hcs8 ex8 hlb htj u1 
                            cases r9
                            · have HHK := Lib.hid (show hookE m gs off l F K i i = -1 by rw [HH0.out, if_neg (by have := of_decide_eq_false HR9.out; omega)])
                              go_wp2_with fail
                              refine wp_near [] (by kernel_rfl) (by kernel_rfl) ?_
                              repeat (go_big_quiet_step ((first | (go_at_call 34; with_reducible exact near_call _ (HLA.out _)) | (go_at_call 34; with_reducible exact near_call _ (HLB.out _)))))
                              refine wpQuiet_nil ?_
                              intro nj
                              obtain ⟨WS, ps⟩ := nj
                              dsimp only
                              have BT := Lib.hid (S9.out.only ps (by simp))
                              have OT := Lib.hid (OB.out.trans ps)
                              have OWT := Lib.hid ((own_only (OWN.out.alloc (.cells #[.int .i64 k, .int .i64 i, .int .i64 i, .int .i64 (-1)] 49)) ps (by simp)))
                              have hts := OT.out.size
                              have hts2 := ps.size
                              have y0 := BT.out.cell 0
                              have y1 := BT.out.cell 1
                              have y2 := BT.out.cell 2
                              have y3 := BT.out.cell 3
                              have y4 := BT.out.frozen 3
                              simp only [List.getElem?_cons_zero, List.getElem?_cons_succ] at y0 y1 y2 y3
                              have OU := OT
                              have OWU := OWT
                              have HNEWS := Lib.hid (World.news_of_block (heap_alloc_new WS (.cells #[.int .i64 k, .int .i64 i, .int .i64 i, .int .i64 (-1)] 49)))
                              clear n0 n1 n2 n3 n4 n5 n6 n7 v0 g0 g1 ps
                              go_wp2_with (at_builtin; refine wpList_append_lies _ rfl _ _ _ rfl V.heap.size 49 _ _ 4 32 Try.underlying44 hi0 hz0 hz1 hz2 rfl (by omega) v pre.length _ rfl (OWU.out.alloc _) ⟨WS.heap.size, 0, none⟩ 1 1 [.int .i64 k, .int .i64 i, .int .i64 i, .int .i64 (-1)] rfl rfl HNEWS.out (by simp [Value.oneCell']) (by omega) (by simp only [maxLen]; omega) (by omega) (by simp [World.setCell]; omega) (WS.heap.size + 1) (by simp [World.setCell]) ?_; intro gg cap w5 hown5 hgrow hat hlt5)
                              go_roundw
                              case rel =>
                                refine ⟨i + 1, pre ++ [⟨k, i, i, (-1)⟩], _, by omega, by have := HEK2.out; omega, by go_num, rfl, Lib.hid ?_, ?_, (OU.out.alloc _).grown hgrow fun q hq => .inr (HOB.out q hq)⟩
                                · rw [← HPR.out]
                                  unfold segK
                                  rw [HT.out, ← EE.out, HHK.out, List.append_assoc]
                                  rfl
                                · rw [sCells_snoc, List.length_append]
                                  exact hown5
                              case measure => have := HII.out; simp [intOf]; omega
                            · have HHK := Lib.hid (show hookE m gs off l F K i i = 1 by rw [HH0.out, if_pos (by have := of_decide_eq_true HR9.out; omega)])
                              go_wp2_with fail
                              refine wp_near [] (by kernel_rfl) (by kernel_rfl) ?_
                              repeat (go_big_quiet_step ((first | (go_at_call 34; with_reducible exact near_call _ (HLA.out _)) | (go_at_call 34; with_reducible exact near_call _ (HLB.out _)))))
                              refine wpQuiet_nil ?_
                              intro nj
                              obtain ⟨WS, ps⟩ := nj
                              dsimp only
                              have BT := Lib.hid (S9.out.only ps (by simp))
                              have OT := Lib.hid (OB.out.trans ps)
                              have OWT := Lib.hid ((own_only (OWN.out.alloc (.cells #[.int .i64 k, .int .i64 i, .int .i64 i, .int .i64 (-1)] 49)) ps (by simp)))
                              have hts := OT.out.size
                              have hts2 := ps.size
                              have y0 := BT.out.cell 0
                              have y1 := BT.out.cell 1
                              have y2 := BT.out.cell 2
                              have y3 := BT.out.cell 3
                              have y4 := BT.out.frozen 3
                              simp only [List.getElem?_cons_zero, List.getElem?_cons_succ] at y0 y1 y2 y3
                              have BU := Lib.hid (BT.out.set_ 3 (.int .i64 1))
                              have OU := Lib.hid (OT.out.setCell (p := ⟨wr.heap.size, 3, none⟩) (.inr (by omega)) (.int .i64 1))
                              have OWU := Lib.hid (own_set OWT.out (p := ⟨wr.heap.size, 3, none⟩) (by
                                intro q hq
                                have := (OWN.out.lt q hq).2
                                show q ≠ wr.heap.size
                                omega) (.int .i64 1))
                              have x0 := BU.out.cell 0
                              have x1 := BU.out.cell 1
                              have x2 := BU.out.cell 2
                              have x3 := BU.out.cell 3
                              simp only [List.set_cons_zero, List.set_cons_succ, List.getElem?_cons_zero, List.getElem?_cons_succ] at x0 x1 x2 x3
                              have HNEWS := Lib.hid (World.news_of_block (heap_alloc_new (WS.setCell ⟨wr.heap.size, 3, none⟩ (.int .i64 1)) (.cells #[.int .i64 k, .int .i64 i, .int .i64 i, .int .i64 1] 49)))
                              rw [show (WS.setCell ⟨wr.heap.size, 3, none⟩ (.int .i64 1)).heap.size = WS.heap.size by simp [World.setCell]] at HNEWS
                              clear n0 n1 n2 n3 n4 n5 n6 n7 v0 g0 g1 ps
                              go_wp2_with (at_builtin; refine wpList_append_lies _ rfl _ _ _ rfl V.heap.size 49 _ _ 4 32 Try.underlying44 hi0 hz0 hz1 hz2 rfl (by omega) v pre.length _ rfl (OWU.out.alloc _) ⟨WS.heap.size, 0, none⟩ 1 1 [.int .i64 k, .int .i64 i, .int .i64 i, .int .i64 (1)] rfl rfl HNEWS.out (by simp [Value.oneCell']) (by omega) (by simp only [maxLen]; omega) (by omega) (by simp [World.setCell]; omega) (WS.heap.size + 1) (by simp [World.setCell]) ?_; intro gg cap w5 hown5 hgrow hat hlt5)
                              go_roundw
                              case rel =>
                                refine ⟨i + 1, pre ++ [⟨k, i, i, (1)⟩], _, by omega, by have := HEK2.out; omega, by go_num, rfl, Lib.hid ?_, ?_, (OU.out.alloc _).grown hgrow fun q hq => .inr (HOB.out q hq)⟩
                                · rw [← HPR.out]
                                  unfold segK
                                  rw [HT.out, ← EE.out, HHK.out, List.append_assoc]
                                  rfl
                                · rw [sCells_snoc, List.length_append]
                                  exact hown5
                              case measure => have := HII.out; simp [intOf]; omega
                          · exact absurd HEK.out hiK2
                      · have HHK := Lib.hid (show hookE m gs off l F K i e = 0 by unfold hookE; rw [if_neg hie])
                        have z1 : ((i : Int) == (e : Int)) = false := by
                          have : ¬ ((i : Int) = (e : Int)) := by omega
                          simpa using this
                        have z1n : (i == e) = false := by simpa using hie
                        have HNEWS := Lib.hid (World.news_of_block (heap_alloc_new (wr.alloc (.cells #[.int .i64 k, .int .i64 i, .int .i64 e, .int .i64 0] 49)) (.cells #[.int .i64 k, .int .i64 i, .int .i64 e, .int .i64 0] 49)))
                        rw [show (wr.alloc (.cells #[.int .i64 k, .int .i64 i, .int .i64 e, .int .i64 0] 49)).heap.size = wr.heap.size + 1 by simp] at HNEWS
                        have q0 := hbg.cell 0
                        have q1 := hbg.cell 1
                        simp only [List.getElem?_cons_zero, List.getElem?_cons_succ] at q0 q1
                        clear hbg
                        go_wp2_with (at_builtin; refine wpList_append_lies _ rfl _ _ _ rfl V.heap.size 49 _ _ 4 32 Try.underlying44 hi0 hz0 hz1 hz2 rfl (by omega) v pre.length _ rfl ((OWN.out.alloc _).alloc _) ⟨wr.heap.size + 1, 0, none⟩ 1 1 [.int .i64 k, .int .i64 i, .int .i64 e, .int .i64 0] rfl rfl HNEWS.out (by simp [Value.oneCell']) (by omega) (by simp only [maxLen]; omega) (by omega) (by simp; omega) (wr.heap.size + 1 + 1) (by simp) ?_; intro gg cap w5 hown5 hgrow hat hlt5)
                        go_roundw
                        case rel =>
                          refine ⟨e + 1, pre ++ [⟨k, i, e, 0⟩], _, by omega, by have := HEK2.out; omega, by go_num, rfl, Lib.hid ?_, ?_, ((OW2.out.alloc _).alloc _).grown hgrow fun q hq => .inr (HOB.out q hq)⟩
                          · rw [← HPR.out]
                            unfold segK
                            rw [HT.out, ← EE.out, HHK.out, List.append_assoc]
                            rfl
                          · rw [sCells_snoc, List.length_append]
                            exact hown5
                        case measure => have := HII.out; simp [intOf]; omega
                  · have e1 : ¬ (e : Int) < (K : Int) := by omega
                    have EE := Lib.hid (show e = E by rw [← HEE.out, runK_end _ _ _ (by omega) (by omega)])
                    have OX := HO4
                    clear hbg hOO hO3 hO4
                    have OW2 := Lib.hid (HO3.out.trans OX.out)
                    have OWV := OW2
                    have OWN := Lib.hid (own_only HOW3.out OX.out (by simp))
                    have HOB := Lib.hid (fun q hq => (OWN.out.lt q hq).1)
                    have hpl : pre.length ≤ 768 := by
                      have h1 := HLEN.out
                      have h2 := congrArg List.length HPR.out
                      rw [List.length_append] at h2
                      omega
                    have hwz := OWV.out.size
                    have hbg := BGV.out.only OWV.out (by simp)
                    have HEK2 := Lib.hid (show e ≤ K by omega)
                    by_cases hie : i = e
                    · subst hie
                      have HH0 : Hid (hookE m gs off l F K i i = if i = F ∨ i < K ∧ levE m gs ((off + (ntAt l i).t) % m.len) < levE m gs ((off + (ntAt l (i + 1)).t) % m.len) then 1 else -1) := Lib.hid (by unfold hookE; rw [if_pos rfl])
                      have z1 : ((i : Int) == (i : Int)) = true := by simp
                      have OB := Lib.hid (OWV.out.alloc (.cells #[.int .i64 k, .int .i64 i, .int .i64 i, .int .i64 (-1)] 49))
                      have BS := Lib.hid (Blk.new wr 49 [.int .i64 k, .int .i64 i, .int .i64 i, .int .i64 (-1)])
                      have BG9 := Lib.hid (BGV.out.only OB.out (by simp))
                      have BM9 := Lib.hid (BMV.out.only OB.out (by simp))
                      have hil : i < l.length := by have := HII.out; have := HK.out; omega
                      have trl := HTR.out i hil
                      have ex9 : ntAt l i = l[i] := by simp [ntAt, hil]
                      obtain ⟨b9, off9, hA9, hb9, hcs9⟩ := (H.out.only (OV.out.trans OB.out)) i hil
                      simp only [Option.some.injEq, Addr.mk.injEq, and_true] at hA9
                      obtain ⟨rfl, rfl⟩ := hA9
                      rw [← ex9] at hcs9
                      have u0 := hcs9 0 (by omega)
                      simp only [Nt.vs, List.getElem?_cons_zero, Nat.add_zero] at u0
                      have HLA := Lib.hid (HLV.out (off + (ntAt l i).t) trl.1 trl.2)
                      obtain ⟨la, hla⟩ : ∃ la, levE m gs ((off + (ntAt l i).t) % m.len) = la := ⟨_, rfl⟩
                      rw [hla] at HLA HH0
                      obtain ⟨ti, hti⟩ : ∃ ti, (ntAt l i).t = ti := ⟨_, rfl⟩
                      rw [hti] at HLA u0 trl
                      have wti : IntKind.i64.wrap (off + ti) = off + ti := IntWalk.i64_in _ (by omega)
                      have g0 : ∀ x : Near [] (wr.alloc (.cells #[.int .i64 k, .int .i64 i, .int .i64 i, .int .i64 (-1)] 49)), x.W.cell? ⟨w.heap.size + 1, 0, none⟩ = some (.int .i64 (F : Int)) := fun x => (BG9.out.only x.only (by simp)).cell 0
                      have g1 : ∀ x : Near [] (wr.alloc (.cells #[.int .i64 k, .int .i64 i, .int .i64 i, .int .i64 (-1)] 49)), x.W.cell? ⟨w.heap.size + 1, 1, none⟩ = some (.int .i64 (K : Int)) := fun x => (BG9.out.only x.only (by simp)).cell 1
                      obtain ⟨n0, n1, n2, n3, n4, n5, n6, n7⟩ := met_near BM9.out
                      have v0 : ∀ x : Near [] (wr.alloc (.cells #[.int .i64 k, .int .i64 i, .int .i64 i, .int .i64 (-1)] 49)), x.W.cell? ⟨b0, off0 + i * 6, none⟩ = some (.int .i64 ti) := fun x => (x.only.cell hb9 (by simp)).trans u0
                      have S9 := Lib.hid BS.out
                      clear hbg hcs9 ex9 hla hti u0
                      by_cases hiF : i = F
                      · have HHK := Lib.hid (show hookE m gs off l F K i i = 1 by rw [HH0.out, if_pos (.inl hiF)])
                        have zF : ((i : Int) == (F : Int)) = true := by simp [hiF]
                        have zFn : (i == F) = true := by simp [hiF]
                        clear hiF
                        go_wp2_with fail
                        refine wp_near [] (by kernel_rfl) (by kernel_rfl) ?_
                        repeat (go_big_quiet_step (fail))
                        refine wpQuiet_nil ?_
                        intro nj
                        obtain ⟨WS, ps⟩ := nj
                        dsimp only
                        have BT := Lib.hid (S9.out.only ps (by simp))
                        have OT := Lib.hid (OB.out.trans ps)
                        have OWT := Lib.hid ((own_only (OWN.out.alloc (.cells #[.int .i64 k, .int .i64 i, .int .i64 i, .int .i64 (-1)] 49)) ps (by simp)))
                        have hts := OT.out.size
                        have hts2 := ps.size
                        have y0 := BT.out.cell 0
                        have y1 := BT.out.cell 1
                        have y2 := BT.out.cell 2
                        have y3 := BT.out.cell 3
                        have y4 := BT.out.frozen 3
                        simp only [List.getElem?_cons_zero, List.getElem?_cons_succ] at y0 y1 y2 y3
                        have BU := Lib.hid (BT.out.set_ 3 (.int .i64 1))
                        have OU := Lib.hid (OT.out.setCell (p := ⟨wr.heap.size, 3, none⟩) (.inr (by omega)) (.int .i64 1))
                        have OWU := Lib.hid (own_set OWT.out (p := ⟨wr.heap.size, 3, none⟩) (by
                          intro q hq
                          have := (OWN.out.lt q hq).2
                          show q ≠ wr.heap.size
                          omega) (.int .i64 1))
                        have x0 := BU.out.cell 0
                        have x1 := BU.out.cell 1
                        have x2 := BU.out.cell 2
                        have x3 := BU.out.cell 3
                        simp only [List.set_cons_zero, List.set_cons_succ, List.getElem?_cons_zero, List.getElem?_cons_succ] at x0 x1 x2 x3
                        have HNEWS := Lib.hid (World.news_of_block (heap_alloc_new (WS.setCell ⟨wr.heap.size, 3, none⟩ (.int .i64 1)) (.cells #[.int .i64 k, .int .i64 i, .int .i64 i, .int .i64 1] 49)))
                        rw [show (WS.setCell ⟨wr.heap.size, 3, none⟩ (.int .i64 1)).heap.size = WS.heap.size by simp [World.setCell]] at HNEWS
                        clear n0 n1 n2 n3 n4 n5 n6 n7 v0 g0 g1 ps
                        go_wp2_with (at_builtin; refine wpList_append_lies _ rfl _ _ _ rfl V.heap.size 49 _ _ 4 32 Try.underlying44 hi0 hz0 hz1 hz2 rfl (by omega) v pre.length _ rfl (OWU.out.alloc _) ⟨WS.heap.size, 0, none⟩ 1 1 [.int .i64 k, .int .i64 i, .int .i64 i, .int .i64 (1)] rfl rfl HNEWS.out (by simp [Value.oneCell']) (by omega) (by simp only [maxLen]; omega) (by omega) (by simp [World.setCell]; omega) (WS.heap.size + 1) (by simp [World.setCell]) ?_; intro gg cap w5 hown5 hgrow hat hlt5)
                        go_roundw
                        case rel =>
                          refine ⟨i + 1, pre ++ [⟨k, i, i, (1)⟩], _, by omega, by have := HEK2.out; omega, by go_num, rfl, Lib.hid ?_, ?_, (OU.out.alloc _).grown hgrow fun q hq => .inr (HOB.out q hq)⟩
                          · rw [← HPR.out]
                            unfold segK
                            rw [HT.out, ← EE.out, HHK.out, List.append_assoc]
                            rfl
                          · rw [sCells_snoc, List.length_append]
                            exact hown5
                        case measure => have := HII.out; simp [intOf]; omega
                      · have zF : ((i : Int) == (F : Int)) = false := by
                          have : ¬ ((i : Int) = (F : Int)) := by omega
                          simpa using this
                        have zFn : (i == F) = false := by simpa using hiF
                        by_cases hiK2 : i < K
                        · exact absurd hiK2 (by omega)
                        · have zK : decide ((i : Int) < (K : Int)) = false := decide_eq_false (by omega)
                          have zKn : decide (i < K) = false := decide_eq_false hiK2
                          have HHK := Lib.hid (show hookE m gs off l F K i i = -1 by rw [HH0.out, if_neg (by omega)])
                          go_wp2_with fail
                          refine wp_near [] (by kernel_rfl) (by kernel_rfl) ?_
                          repeat (go_big_quiet_step (fail))
                          refine wpQuiet_nil ?_
                          intro nj
                          obtain ⟨WS, ps⟩ := nj
                          dsimp only
                          have BT := Lib.hid (S9.out.only ps (by simp))
                          have OT := Lib.hid (OB.out.trans ps)
                          have OWT := Lib.hid ((own_only (OWN.out.alloc (.cells #[.int .i64 k, .int .i64 i, .int .i64 i, .int .i64 (-1)] 49)) ps (by simp)))
                          have hts := OT.out.size
                          have hts2 := ps.size
                          have y0 := BT.out.cell 0
                          have y1 := BT.out.cell 1
                          have y2 := BT.out.cell 2
                          have y3 := BT.out.cell 3
                          have y4 := BT.out.frozen 3
                          simp only [List.getElem?_cons_zero, List.getElem?_cons_succ] at y0 y1 y2 y3
                          have OU := OT
                          have OWU := OWT
                          have HNEWS := Lib.hid (World.news_of_block (heap_alloc_new WS (.cells #[.int .i64 k, .int .i64 i, .int .i64 i, .int .i64 (-1)] 49)))
                          clear n0 n1 n2 n3 n4 n5 n6 n7 v0 g0 g1 ps
                          go_wp2_with (at_builtin; refine wpList_append_lies _ rfl _ _ _ rfl V.heap.size 49 _ _ 4 32 Try.underlying44 hi0 hz0 hz1 hz2 rfl (by omega) v pre.length _ rfl (OWU.out.alloc _) ⟨WS.heap.size, 0, none⟩ 1 1 [.int .i64 k, .int .i64 i, .int .i64 i, .int .i64 (-1)] rfl rfl HNEWS.out (by simp [Value.oneCell']) (by omega) (by simp only [maxLen]; omega) (by omega) (by simp [World.setCell]; omega) (WS.heap.size + 1) (by simp [World.setCell]) ?_; intro gg cap w5 hown5 hgrow hat hlt5)
                          go_roundw
                          case rel =>
                            refine ⟨i + 1, pre ++ [⟨k, i, i, (-1)⟩], _, by omega, by have := HEK2.out; omega, by go_num, rfl, Lib.hid ?_, ?_, (OU.out.alloc _).grown hgrow fun q hq => .inr (HOB.out q hq)⟩
                            · rw [← HPR.out]
                              unfold segK
                              rw [HT.out, ← EE.out, HHK.out, List.append_assoc]
                              rfl
                            · rw [sCells_snoc, List.length_append]
                              exact hown5
                          case measure => have := HII.out; simp [intOf]; omega
                    · have HHK := Lib.hid (show hookE m gs off l F K i e = 0 by unfold hookE; rw [if_neg hie])
                      have z1 : ((i : Int) == (e : Int)) = false := by
                        have : ¬ ((i : Int) = (e : Int)) := by omega
                        simpa using this
                      have z1n : (i == e) = false := by simpa using hie
                      have HNEWS := Lib.hid (World.news_of_block (heap_alloc_new (wr.alloc (.cells #[.int .i64 k, .int .i64 i, .int .i64 e, .int .i64 0] 49)) (.cells #[.int .i64 k, .int .i64 i, .int .i64 e, .int .i64 0] 49)))
                      rw [show (wr.alloc (.cells #[.int .i64 k, .int .i64 i, .int .i64 e, .int .i64 0] 49)).heap.size = wr.heap.size + 1 by simp] at HNEWS
                      have q0 := hbg.cell 0
                      have q1 := hbg.cell 1
                      simp only [List.getElem?_cons_zero, List.getElem?_cons_succ] at q0 q1
                      clear hbg
                      go_wp2_with (at_builtin; refine wpList_append_lies _ rfl _ _ _ rfl V.heap.size 49 _ _ 4 32 Try.underlying44 hi0 hz0 hz1 hz2 rfl (by omega) v pre.length _ rfl ((OWN.out.alloc _).alloc _) ⟨wr.heap.size + 1, 0, none⟩ 1 1 [.int .i64 k, .int .i64 i, .int .i64 e, .int .i64 0] rfl rfl HNEWS.out (by simp [Value.oneCell']) (by omega) (by simp only [maxLen]; omega) (by omega) (by simp; omega) (wr.heap.size + 1 + 1) (by simp) ?_; intro gg cap w5 hown5 hgrow hat hlt5)
                      go_roundw
                      case rel =>
                        refine ⟨e + 1, pre ++ [⟨k, i, e, 0⟩], _, by omega, by have := HEK2.out; omega, by go_num, rfl, Lib.hid ?_, ?_, ((OW2.out.alloc _).alloc _).grown hgrow fun q hq => .inr (HOB.out q hq)⟩
                        · rw [← HPR.out]
                          unfold segK
                          rw [HT.out, ← EE.out, HHK.out, List.append_assoc]
                          rfl
                        · rw [sCells_snoc, List.length_append]
                          exact hown5
                      case measure => have := HII.out; simp [intOf]; omega
            · obtain rfl : i = K + 1 := by omega
              have HP2 := Lib.hid (show pre = RK by rw [← HPR.out, segK_end, List.append_nil])
              have HO3 := Lib.hid hO
              have HOW3 := Lib.hid hown
              have e9 : ¬ ((K + 1 : Nat) : Int) ≤ (K : Int) := by omega
              clear hbg hOO hown hO
              go_wp2_with fail
              go_roundw
              case rel => exact ⟨kk + 1, v, by have := HK0.out; have := HKM.out; omega, by rw [← HK0.out]; go_num, rfl, by rw [HKR.out, ← HP2.out]; exact HOW3.out, HO3.out⟩
              case measure => have := HK0.out; have := HKM.out; simp [intOf]; omega
        · have hMk : M = (kk : Int) := by omega
          have HV := Lib.hid (show (mostTo l F (K - F + 1)).toNat = kk by rw [HMM.out, hMk]; omega)
          have HO9 := Lib.hid (OV.out.trans hO)
          have HOW9 := Lib.hid (own_lower hown OV.out.size)
          clear hO hown hMk
          go_wp2_with fail
          go_ret2
          rw [HV.out]
          exact ⟨v, rfl, HOW9.out, HO9.out⟩
end Go.Proofs.Ytglkpoiajebleaa
