/- DERIVED. Contracts of package beam: checkLine and Stems, of proper notes. -/
import Derived.Test.YtglkpoiajebleaaPlq
namespace Go.Proofs.Ytglkpoiajebleaa
open Go.RowKit

section
variable {P : Program}
/-- A head among whose operations calls are that allocate, and some that may come late; then a tail in its order. -/
theorem wp_late_near {id : Nat} {Q : Exit → Act → World → Prop} {a : Act} {w : World} {l : List Oper} (S : List Nat) (n : Nat) (B : List Nat) (hm : P.follows .mixedOrders = true) (hB : lateB .any l.toArray n B = true)
    (hQ : ∀ c a d v w, Q (.panic c) (a.put d v) w → Q (.panic c) a w)
    (h : wpLex P l.toArray (fun w' => ∃ i : Near S w, w' = i.W) B (fun a' => ∀ i : Near S w, wpList P l.toArray Q (l.drop n) a' i.W) 0 (l.take n) a) : (Code.region id l.toArray true).wp P Q a w :=
  wp_region_late (fun w' => ∃ i : Near S w, w' = i.W) n B hm hB hQ ⟨⟨w.drew, (Only.refl S w).drew⟩, rfl⟩ (by
    have e : (fun a' => ∀ w', (∃ i : Near S w, w' = i.W) → wpList P l.toArray Q (l.drop n) a' w') = (fun a' => ∀ i : Near S w, wpList P l.toArray Q (l.drop n) a' i.W) := by
      funext a'
      exact propext ⟨fun h i => h _ ⟨i, rfl⟩, fun h w' ⟨i, e⟩ => by subst e; exact h i⟩
    rw [e]
    exact h)
end
abbrev linV (a b : Int) : Value := .agg #[.int .i64 a, .int .i64 b]

set_option maxRecDepth 20000 in
set_option maxHeartbeats 4000000 in
theorem checkLine_ok {w : World} {A : Option Addr} {l : List Nt} (c : Nat) (h : NotesAt w A l) (hl : l.length ≤ 128) (hcap : l.length ≤ c) (f k : Int) (hn : ntE none l = 0) (hg : gE l f k = 0) (a b : Int) (ha : -4194304 ≤ a ∧ a ≤ 4194304) (hb : -4194304 ≤ b ∧ b ≤ 4194304) :
    Calls Try.prog 33 #[.slice A l.length c, grpV f k, linV a b] w fun e w' => e = .returned (.int .i64 0) ∧ Only [] w w' := by
  have HN := Lib.hid fun w2 (o : Only [] w w2) => checkNotes_any c (h.only o) hl
  have HG := Lib.hid fun w2 (o : Only [] w w2) => checkGroup_all c (h.only o) hl hcap f k
  rw [hn] at HN
  rw [hg] at HG
  have HA := Lib.hid ha
  have HB := Lib.hid hb
  have O0 := Lib.hid (((Only.refl [] w).alloc (.cells #[.int .i64 f, .int .i64 k] 40)).alloc (.cells #[.int .i64 a, .int .i64 b] 54))
  have BB := Lib.hid ((Blk.new w 40 [.int .i64 f, .int .i64 k]).alloc (.cells #[.int .i64 a, .int .i64 b] 54))
  have BL := Lib.hid (Blk.new (w.alloc (.cells #[.int .i64 f, .int .i64 k] 40)) 54 [.int .i64 a, .int .i64 b])
  have es : (w.alloc (.cells #[.int .i64 f, .int .i64 k] 40)).heap.size = w.heap.size + 1 := by simp
  rw [es] at BL
  clear es hn hg h hcap ha hb
  go_enter Try.func33, Try.ntmps33
  go_wp2_with (first
    | (go_at_call 28; refine (HN.out _ O0.out).mono ?_; rintro e w1 ⟨rfl, o1⟩; have O1 := Lib.hid (O0.out.trans o1); have B1 := Lib.hid (BB.out.only o1 (by simp)); have L1 := Lib.hid (BL.out.only o1 (by simp)); have q0 := B1.out.cell 0; have q1 := B1.out.cell 1; simp only [List.getElem?_cons_zero, List.getElem?_cons_succ] at q0 q1)
    | (go_at_call 29; refine (HG.out _ O1.out).mono ?_; rintro e w2 ⟨rfl, o2⟩; have O2 := Lib.hid (O1.out.trans o2); have L2 := Lib.hid (L1.out.only o2 (by simp)); have l0 := L2.out.cell 0; have l1 := L2.out.cell 1; simp only [List.getElem?_cons_zero, List.getElem?_cons_succ] at l0 l1)
    | (go_at_call 27; with_reducible refine (in_yes HA.out _).mono ?_; rintro e w' ⟨rfl, rfl⟩)
    | (go_at_call 27; with_reducible refine (in_yes HB.out _).mono ?_; rintro e w' ⟨rfl, rfl⟩))
  go_ret
  exact ⟨rfl, O2.out⟩

/-- The ends of the first j stems. -/
def stemsE (l : List Nt) (F K : Nat) (a s : Int) (j : Nat) : List Int := (List.range j).map fun i => a + riseE l F K s (ntAt l (F + i)).t
theorem stemsE_len (l : List Nt) (F K : Nat) (a s : Int) (j : Nat) : (stemsE l F K a s j).length = j := by simp [stemsE]
theorem stemsE_succ (l : List Nt) (F K : Nat) (a s : Int) (j : Nat) : stemsE l F K a s (j + 1) = stemsE l F K a s j ++ [a + riseE l F K s (ntAt l (F + j)).t] := by simp [stemsE, List.range_succ]

set_option maxRecDepth 20000 in
set_option maxHeartbeats 8000000 in
theorem Stems_ok {w : World} {A : Option Addr} {l : List Nt} (c : Nat) (h : NotesAt w A l) (hl : l.length ≤ 128) (hcap : l.length ≤ c) (hn : ntE none l = 0) (F K : Nat) (h1 : F < K) (h2 : K < l.length) (hg : gE l F K = 0)
    (a b : Int) (ha : -4194304 ≤ a ∧ a ≤ 4194304) (hb : -4194304 ≤ b ∧ b ≤ 4194304) (hs : -128 ≤ b - a ∧ b - a ≤ 128) :
    Calls Try.prog 17 #[.slice A l.length c, grpV F K, linV a b] w fun e w' => ∃ v, e = .returned (.tuple #[v, .int .i64 0]) ∧ w'.ownsRow w.heap.size 3 1 v (K - F + 1) ((stemsE l F K a (b - a) (K - F + 1)).map (.int .i64)) ∧ Only [] w w' := by
  obtain ⟨i0, hi0, hz0, hz1, hz2⟩ := info_parts int_info
  have HC := Lib.hid fun w2 (o : Only [] w w2) => checkLine_ok c (h.only o) hl hcap F K hn hg a b ha hb
  have HR := Lib.hid fun w2 (o : Only [] w w2) (s t : Int) (s1 : -128 ≤ s) (s2 : s ≤ 128) (t1 : (ntAt l F).t ≤ t) (t2 : t ≤ (ntAt l K).t) => rise_at c (h.only o) hl hn F K h1 h2 s t s1 s2 t1 t2
  have HNT := Lib.hid hn
  have H := Lib.hid h
  have O0 := Lib.hid (((Only.refl [] w).alloc (.cells #[.int .i64 (F : Int), .int .i64 (K : Int)] 40)).alloc (.cells #[.int .i64 a, .int .i64 b] 54))
  have BB := Lib.hid ((Blk.new w 40 [.int .i64 (F : Int), .int .i64 (K : Int)]).alloc (.cells #[.int .i64 a, .int .i64 b] 54))
  have BL := Lib.hid (Blk.new (w.alloc (.cells #[.int .i64 (F : Int), .int .i64 (K : Int)] 40)) 54 [.int .i64 a, .int .i64 b])
  have es : (w.alloc (.cells #[.int .i64 (F : Int), .int .i64 (K : Int)] 40)).heap.size = w.heap.size + 1 := by simp
  rw [es] at BL
  have HF := Lib.hid h1
  have HK := Lib.hid h2
  have f0 : (0 : Int) ≤ (F : Int) := by omega
  have f1 : (F : Int) ≤ (K : Int) + 1 := by omega
  have f2 : (0 : Int) ≤ (K : Int) + 1 := by omega
  have f3 : (K : Int) + 1 ≤ (c : Int) := by omega
  have kk : IntKind.i64.wrap ((K : Int) + 1) = (K : Int) + 1 := IntWalk.i64_in _ (by omega)
  obtain ⟨n, hn2⟩ : ∃ n, K + 1 - F = n := ⟨_, rfl⟩
  obtain ⟨b0, off, rfl, -, -⟩ := h F (by omega)
  clear es hg h hn hcap
  go_enter Try.func17, Try.ntmps17
  go_wp2_with (first
    | (go_at_call 33; refine (HC.out _ O0.out).mono ?_; rintro e w1 ⟨rfl, o1⟩; have O1 := Lib.hid (O0.out.trans o1); have B1 := Lib.hid (BB.out.only o1 (by simp)); have L1 := Lib.hid (BL.out.only o1 (by simp)); have q0 := B1.out.cell 0; have q1 := B1.out.cell 1; simp only [List.getElem?_cons_zero, List.getElem?_cons_succ] at q0 q1))
  have hsz := O1.out.size
  have HN := Lib.hid hn2
  have nn : n ≤ 128 := by omega
  clear q0 q1 f1 f2 f3 kk hn2
  go_loopw [9, 27] (fun o i wr => ∃ (j : Nat) (v : Value), j ≤ n ∧ i = .int .i64 j ∧ v = o ∧ wr.ownsRow w1.heap.size 3 1 v j ((stemsE l F K a (b - a) j).map (.int .i64)) ∧ Only [] w1 wr) (fun _ i _ => n - (intOf i).toNat)
  case atStart => exact ⟨0, _, by omega, rfl, rfl, World.ownsRow_nil _ _ _ _, Only.refl _ _⟩
  case round =>
    obtain ⟨j, v, hj, rfl, rfl, hown, hO⟩ := hrel
    by_cases hlt : j < n
    · have hi : F + j < l.length := by have := HN.out; have := HK.out; omega
      have hKl : K < l.length := by have := HK.out; omega
      have hFK : F < K := by have := HF.out; omega
      have ex : ntAt l (F + j) = l[F + j] := by simp [ntAt, hi]
      have eF : ntAt l F = l[F] := by simp [ntAt, show F < l.length by omega]
      have eK : ntAt l K = l[K] := by simp [ntAt, hKl]
      have t1 : (ntAt l F).t ≤ (ntAt l (F + j)).t := by rw [ex, eF]; exact ntE_le HNT.out (by omega) hi
      have t2 : (ntAt l (F + j)).t ≤ (ntAt l K).t := by rw [ex, eK]; exact ntE_le HNT.out (by have := HN.out; omega) hKl
      have t3 : (ntAt l F).t < (ntAt l K).t := by
        rw [eF, eK]
        have := ntE_mono HNT.out hFK hKl
        have := (ntE_ok l none HNT.out l[F] (List.getElem_mem _)).c1
        omega
      have hr := riseE_rng hs.1 hs.2 t1 t2 t3
      obtain ⟨b', off', hA', hb', hcs⟩ := (H.out.only (O1.out.trans hO)) (F + j) hi
      simp only [Option.some.injEq, Addr.mk.injEq, and_true] at hA'
      obtain ⟨rfl, rfl⟩ := hA'
      rw [show off + (F + j) * 6 = off + F * 6 + j * 6 by omega, ← ex] at hcs
      have m0 := hcs 0 (by omega)
      have m1 := hcs 1 (by omega)
      have m2 := hcs 2 (by omega)
      have m3 := hcs 3 (by omega)
      have m4 := hcs 4 (by omega)
      have m5 := hcs 5 (by omega)
      simp only [Nt.vs, List.getElem?_cons_zero, List.getElem?_cons_succ, Nat.add_zero] at m0 m1 m2 m3 m4 m5
      have HSC := Lib.hid (stemsE_succ l F K a (b - a) j)
      obtain ⟨x, hx⟩ : ∃ x, ntAt l (F + j) = x := ⟨_, rfl⟩
      rw [hx] at m0 m1 m2 m3 m4 m5 t1 t2 hr HSC
      have wd : IntKind.i64.wrap (b - a) = b - a := IntWalk.i64_in _ (by omega)
      have HRS := Lib.hid fun w3 (o : Only [] w w3) => HR.out w3 o (b - a) x.t hs.1 hs.2 t1 t2
      obtain ⟨rr, hrr⟩ : ∃ rr, riseE l F K (b - a) x.t = rr := ⟨_, rfl⟩
      rw [hrr] at hr HSC
      simp only [hrr] at HRS
      have wa : IntKind.i64.wrap (a + rr) = a + rr := IntWalk.i64_in _ (by omega)
      have j0 : (0 : Int) ≤ (j : Int) := by omega
      have j1 : (j : Int) < (n : Int) := by omega
      clear hcs ex hx eF eK t1 t2 t3 hi hKl hFK hr hrr
      have hOa := hO.alloc (ntBox x)
      have Ba := Lib.hid (B1.out.only hOa (by simp))
      have La := Lib.hid (L1.out.only hOa (by simp))
      have q0 := Ba.out.cell 0
      have q1 := Ba.out.cell 1
      have l0 := La.out.cell 0
      have l1 := La.out.cell 1
      simp only [List.getElem?_cons_zero, List.getElem?_cons_succ] at q0 q1 l0 l1
      have HOA := Lib.hid hOa
      have OW := Lib.hid (hown.alloc (ntBox x))
      clear hO hOa hown
      go_wp2_with fail
      have HW := Lib.hid (show Only [] w (wr.alloc (ntBox x)) from O1.out.trans HOA.out)
      obtain ⟨W, hW⟩ : ∃ W, wr.alloc (ntBox x) = W := ⟨_, rfl⟩
      have BX := Lib.hid (Blk.new wr 42 [.int .i64 x.t, .int .i64 x.len, .int .i64 x.fl, .int .i64 x.st, .int .i64 x.hd, .int .i64 x.cl])
      obtain ⟨X, hX⟩ : ∃ X, wr.heap.size = X := ⟨_, rfl⟩
      rw [hW] at HW Ba La HOA OW BX ⊢
      rw [hX] at BX ⊢
      clear hW hX q0 q1 l0 l1 m0 m1 m2 m3 m4 m5
      have n0 : ∀ i : Near [] W, i.W.cell? ⟨w.heap.size, 0, none⟩ = some (.int .i64 (F : Int)) := fun i => (Ba.out.only i.only (by simp)).cell 0
      have n1 : ∀ i : Near [] W, i.W.cell? ⟨w.heap.size, 1, none⟩ = some (.int .i64 (K : Int)) := fun i => (Ba.out.only i.only (by simp)).cell 1
      have n2 : ∀ i : Near [] W, i.W.cell? ⟨w.heap.size + 1, 0, none⟩ = some (.int .i64 a) := fun i => (La.out.only i.only (by simp)).cell 0
      have n3 : ∀ i : Near [] W, i.W.cell? ⟨w.heap.size + 1, 1, none⟩ = some (.int .i64 b) := fun i => (La.out.only i.only (by simp)).cell 1
      have n4 : ∀ i : Near [] W, i.W.cell? ⟨X, 0, none⟩ = some (.int .i64 x.t) := fun i => (BX.out.only i.only (by simp)).cell 0
      refine wp_late_near [] 14 [0] (by kernel_rfl) (by kernel_rfl) (fun _ _ d _ _ h => by cases d <;> exact h) ?_
      simp only [List.take_succ_cons, List.take_zero, List.drop_succ_cons, List.drop_zero]
      refine wpLex_pure v (by decide) rfl (fun w => by go_simp) ?_
      simp only [Act.put, List.setIfInBounds_toArray, List.set_cons_zero, List.set_cons_succ]
      refine wpLex_seg 13 _ _ _ (by decide) (by decide) ?_
      simp only [List.take_succ_cons, List.take_zero, List.drop_succ_cons, List.drop_zero]
      repeat (go_big_quiet_step ((go_at_call 32; exact near_call _ (HRS.out _ (HW.out.trans (Near.only _))))))
      refine wpQuiet_nil ?_
      refine wpLex_nil ?_
      intro ni
      obtain ⟨WQ, pq⟩ := ni
      dsimp only
      have O5 := Lib.hid (HOA.out.trans pq)
      have OWQ := Lib.hid (own_only OW.out pq (by simp))
      have hs5 := O5.out.size
      clear n0 n1 n2 n3 n4 pq
      go_wp2_with (at_builtin; refine wpList_append_lies _ rfl _ _ _ rfl w1.heap.size 3 i0 _ 1 8 Try.underlying45 hi0 hz0 hz1 hz2 rfl (by omega) v j _ rfl (OWQ.out.alloc _) ⟨WQ.heap.size, 0, none⟩ 1 1 [.int .i64 (a + rr)] rfl rfl (World.news_of_block (cs := #[.int .i64 (a + rr)]) (t := 3) (fr := (0, 0)) (heap_alloc_new WQ _)) (by simp [Value.oneCell']) (by omega) (by simp only [maxLen]; omega) (by omega) (by simp; omega) _ rfl ?_; intro gg cap w5 hown5 hgrow hat hlt5)
      go_roundw
      case rel =>
        refine ⟨j + 1, _, by omega, by go_num, rfl, ?_, (O5.out.alloc _).grown hgrow fun q hq => .inr (OWQ.out.lt q hq).1⟩
        rw [HSC.out, List.map_append, List.map_singleton]
        exact hown5
      case measure => simp [intOf]; omega
    · have ej : j = K - F + 1 := by have := HN.out; have := HF.out; omega
      subst ej
      have HOW := Lib.hid hown
      have HO := Lib.hid hO
      clear hown hO
      go_wp2_with fail
      go_ret2
      refine ⟨_, rfl, ⟨HOW.out.1, ?_⟩, O1.out.trans HO.out⟩
      rcases HOW.out.2 with h | ⟨g, cap, cur, rfl, hb, hg, hr⟩
      · exact .inl h
      · exact .inr ⟨g, cap, cur, rfl, by omega, hg, hr⟩
end Go.Proofs.Ytglkpoiajebleaa
