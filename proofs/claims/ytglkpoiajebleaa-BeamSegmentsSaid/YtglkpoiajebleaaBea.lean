/- DERIVED. The statements of chapter 26: beat and joined of the model. -/
import Derived.Test.YtglkpoiajebleaaSig
import Derived.Test.YtglkpoiajebleaaGps
namespace Go.Proofs.Ytglkpoiajebleaa
open Go.RowKit

/-- Where the beat begins that contains a tick. -/
def beatE (m : Met) (gs : List Int) (t : Int) : Int := t - (atTo (bts m.un gs 0) (t % m.len) gs.length).2
theorem atTo_two (l : List Int) (t : Int) (M : Int) (hM : 0 ≤ M) (h : ∀ y ∈ l, 0 ≤ y ∧ y ≤ M) (ht : 0 ≤ t) : ∀ k, -M ≤ (atTo l t k).2 ∧ (atTo l t k).2 ≤ t
  | 0 => by simp [atTo]; omega
  | k + 1 => by
    have ih := atTo_two l t M hM h ht k
    unfold atTo
    split
    · have hg : 0 ≤ l.getD k 0 ∧ l.getD k 0 ≤ M := by
        by_cases hk : k < l.length
        · have := h l[k] (List.getElem_mem _)
          simpa [List.getD, hk] using this
        · simp [List.getD, hk]; omega
      dsimp only
      omega
    · exact ih

set_option maxRecDepth 20000 in
set_option maxHeartbeats 4000000 in
theorem beat_any (m : Met) (hc : m.chk = 0) (gs : List Int) (hG : GrpC m gs) (hl : gs.length ≤ 64) (hg : ∀ x ∈ gs, 0 ≤ x ∧ x ≤ 64) (t : Int) (h1 : 0 ≤ t) (h2 : t ≤ 4398046511104) (w : World) :
    Calls Try.prog 35 #[metV m, .int .i64 t] w fun e w' => e = .returned (.int .i64 (beatE m gs t)) ∧ Only [] w w' := by
  have hk := Met.ok_of hc
  have hr := un_rng hk.u1 hk.u2
  have hlr := len_rng hk.c1 hk.c2 hr.1 hr.2
  have hL1 : 30240 ≤ m.len ∧ m.len ≤ 123863040 := hlr
  have q0 : 0 ≤ t % m.len := Int.emod_nonneg _ (by omega)
  have q1 : t % m.len < m.len := Int.emod_lt_of_pos _ (by omega)
  have hb := atTo_two (bts m.un gs 0) (t % m.len) (123863040 * 64) (by omega) (fun y hy => by
    have := bts_rng (un := m.un) (by unfold Met.un; omega) (by unfold Met.un; omega) gs 0 hg y hy
    omega) q0 gs.length
  have HA := Lib.hid (At_any m hc gs hG hl hg t h1 h2)
  unfold beatE
  obtain ⟨p, hp⟩ : ∃ p, atTo (bts m.un gs 0) (t % m.len) gs.length = p := ⟨_, rfl⟩
  rw [hp] at HA hb ⊢
  obtain ⟨p1, p2⟩ := p
  dsimp only at HA hb ⊢
  have kw : IntKind.i64.wrap (t - p2) = t - p2 := IntWalk.i64_in _ (by omega)
  clear hk hr hlr hc hG hg hl hp
  have O0 := Lib.hid ((Only.refl [] w).alloc (metBox m))
  go_enter Try.func35, Try.ntmps35
  go_wp2_with (go_at_call 39; refine (HA.out _).mono ?_; rintro e w1 ⟨rfl, o1⟩)
  go_ret
  exact ⟨rfl, O0.out.trans o1⟩

theorem all6 {w W : World} {b o : Nat} {v0 v1 v2 v3 v4 v5 : Value} (oo : Only [] w W) (hb : b < w.heap.size) (m0 : w.cell? ⟨b, o, none⟩ = some v0) (m1 : w.cell? ⟨b, o + 1, none⟩ = some v1) (m2 : w.cell? ⟨b, o + 2, none⟩ = some v2)
    (m3 : w.cell? ⟨b, o + 3, none⟩ = some v3) (m4 : w.cell? ⟨b, o + 4, none⟩ = some v4) (m5 : w.cell? ⟨b, o + 5, none⟩ = some v5) :
    W.cell? ⟨b, o, none⟩ = some v0 ∧ W.cell? ⟨b, o + 1, none⟩ = some v1 ∧ W.cell? ⟨b, o + 2, none⟩ = some v2 ∧ W.cell? ⟨b, o + 3, none⟩ = some v3 ∧ W.cell? ⟨b, o + 4, none⟩ = some v4 ∧ W.cell? ⟨b, o + 5, none⟩ = some v5
      ∧ (∀ x, (W.alloc x).cell? ⟨b, o, none⟩ = some v0) ∧ (∀ x, (W.alloc x).cell? ⟨b, o + 1, none⟩ = some v1) ∧ (∀ x, (W.alloc x).cell? ⟨b, o + 2, none⟩ = some v2) ∧ (∀ x, (W.alloc x).cell? ⟨b, o + 3, none⟩ = some v3) ∧ (∀ x, (W.alloc x).cell? ⟨b, o + 4, none⟩ = some v4) ∧ (∀ x, (W.alloc x).cell? ⟨b, o + 5, none⟩ = some v5)
      ∧ (∀ x y, ((W.alloc x).alloc y).cell? ⟨b, o, none⟩ = some v0) ∧ (∀ x y, ((W.alloc x).alloc y).cell? ⟨b, o + 1, none⟩ = some v1) ∧ (∀ x y, ((W.alloc x).alloc y).cell? ⟨b, o + 2, none⟩ = some v2) ∧ (∀ x y, ((W.alloc x).alloc y).cell? ⟨b, o + 3, none⟩ = some v3) ∧ (∀ x y, ((W.alloc x).alloc y).cell? ⟨b, o + 4, none⟩ = some v4) ∧ (∀ x y, ((W.alloc x).alloc y).cell? ⟨b, o + 5, none⟩ = some v5) :=
  have k : ∀ {q : Nat} {v : Value} {W' : World}, Only [] w W' → w.cell? ⟨b, q, none⟩ = some v → W'.cell? ⟨b, q, none⟩ = some v := fun o' h => (o'.cell (p := ⟨b, _, none⟩) hb (by simp)).trans h
  ⟨k oo m0, k oo m1, k oo m2, k oo m3, k oo m4, k oo m5, fun x => k (oo.alloc x) m0, fun x => k (oo.alloc x) m1, fun x => k (oo.alloc x) m2, fun x => k (oo.alloc x) m3, fun x => k (oo.alloc x) m4, fun x => k (oo.alloc x) m5,
    fun x y => k ((oo.alloc x).alloc y) m0, fun x y => k ((oo.alloc x).alloc y) m1, fun x y => k ((oo.alloc x).alloc y) m2, fun x y => k ((oo.alloc x).alloc y) m3, fun x y => k ((oo.alloc x).alloc y) m4, fun x y => k ((oo.alloc x).alloc y) m5⟩

/-- What joined of the model answers. -/
def joinM (m : Met) (gs : List Int) (off : Int) (a b : Nt) : Bool :=
  decide (a.fl ≠ 0 ∧ b.fl ≠ 0 ∧ a.t + a.len = b.t ∧ b.st ≠ 1 ∧ (b.st = 2 ∨ beatE m gs (off + a.t) = beatE m gs (off + b.t)))

set_option maxRecDepth 20000 in
set_option maxHeartbeats 8000000 in
theorem mjoined_any {w : World} {A : Option Addr} {l : List Nt} (c : Nat) (h : NotesAt w A l) (hlen : l.length ≤ 128) (m : Met) (hc : m.chk = 0) (gs : List Int) (hG : GrpC m gs) (hl : gs.length ≤ 64) (hg : ∀ x ∈ gs, 0 ≤ x ∧ x ≤ 64) (off : Int) (i : Nat) (hi : i + 1 < l.length)
    (ha : (ntAt l i).Ok) (hb : (ntAt l (i + 1)).Ok) (h0 : 0 ≤ off) (h1 : off + (ntAt l i).t ≤ 4398046511104) (h2 : off + (ntAt l (i + 1)).t ≤ 4398046511104) :
    Calls Try.prog 26 #[metV m, .int .i64 off, .slice A l.length c, .int .i64 i] w fun e w' => e = .returned (.bool (joinM m gs off (ntAt l i) (ntAt l (i + 1)))) ∧ Only [] w w' := by
  obtain ⟨b, o, rfl, hb1, hcs⟩ := h i (by omega)
  obtain ⟨b', o', hA', hb2, hds⟩ := h (i + 1) hi
  simp only [Option.some.injEq, Addr.mk.injEq, and_true] at hA'
  obtain ⟨rfl, rfl⟩ := hA'
  have ea : ntAt l i = l[i] := by simp [ntAt, show i < l.length by omega]
  have eb : ntAt l (i + 1) = l[i + 1] := by simp [ntAt, hi]
  rw [← ea] at hcs
  rw [← eb] at hds
  have m0 := hcs 0 (by omega)
  have m1 := hcs 1 (by omega)
  have m2 := hcs 2 (by omega)
  have m3 := hcs 3 (by omega)
  have m4 := hcs 4 (by omega)
  have m5 := hcs 5 (by omega)
  have p0 := hds 0 (by omega)
  have p1 := hds 1 (by omega)
  have p2 := hds 2 (by omega)
  have p3 := hds 3 (by omega)
  have p4 := hds 4 (by omega)
  have p5 := hds 5 (by omega)
  simp only [Nt.vs, List.getElem?_cons_zero, List.getElem?_cons_succ, Nat.add_zero] at m0 m1 m2 m3 m4 m5 p0 p1 p2 p3 p4 p5
  obtain ⟨x, hx⟩ : ∃ x, ntAt l i = x := ⟨_, rfl⟩
  obtain ⟨y, hy⟩ : ∃ y, ntAt l (i + 1) = y := ⟨_, rfl⟩
  rw [hx] at m0 m1 m2 m3 m4 m5 ha h1 ⊢
  rw [hy] at p0 p1 p2 p3 p4 p5 hb h2 ⊢
  have HBA := Lib.hid (beat_any m hc gs hG hl hg (off + x.t) (by have := ha.c0; omega) h1)
  have HBB := Lib.hid (beat_any m hc gs hG hl hg (off + y.t) (by have := hb.c0; omega) h2)
  have HJ := Lib.hid (show joinM m gs off x y = decide (x.fl ≠ 0 ∧ y.fl ≠ 0 ∧ x.t + x.len = y.t ∧ y.st ≠ 1 ∧ (y.st = 2 ∨ beatE m gs (off + x.t) = beatE m gs (off + y.t))) from rfl)
  obtain ⟨R, hR⟩ : ∃ R, joinM m gs off x y = R := ⟨_, rfl⟩
  obtain ⟨u, hu⟩ : ∃ u, beatE m gs (off + x.t) = u := ⟨_, rfl⟩
  obtain ⟨v, hv⟩ : ∃ v, beatE m gs (off + y.t) = v := ⟨_, rfl⟩
  rw [hR] at HJ ⊢
  rw [hu] at HBA HJ
  rw [hv] at HBB HJ
  have ks : IntKind.i64.wrap (x.t + x.len) = x.t + x.len := IntWalk.i64_in _ (by have := ha.c0; have := ha.c1; omega)
  have ka : IntKind.i64.wrap (off + x.t) = off + x.t := IntWalk.i64_in _ (by have := ha.c0; omega)
  have kb : IntKind.i64.wrap (off + y.t) = off + y.t := IntWalk.i64_in _ (by have := hb.c0; omega)
  have i0 : (0 : Int) ≤ (i : Int) := by omega
  have i1 : (i : Int) < (l.length : Int) := by omega
  have i2 : (0 : Int) ≤ (i : Int) + 1 := by omega
  have i3 : (i : Int) + 1 < (l.length : Int) := by omega
  have BM := Lib.hid (Blk.new w 36 (metL m))
  clear h hcs hds hx hy ha hb hR hu hv hG hg hl hc ea eb
  have OM := Lib.hid ((Only.refl [] w).alloc (metBox m))
  have hb3 : b < (w.alloc (metBox m)).heap.size := by simp; omega
  have n0 := all6 (oo := OM.out) hb1 m0 m1 m2 m3 m4 m5
  have n1 := all6 (oo := OM.out) hb1 p0 p1 p2 p3 p4 p5
  clear m0 m1 m2 m3 m4 m5 p0 p1 p2 p3 p4 p5
  obtain ⟨a0, a1, a2, a3, a4, a5, c0, c1, c2, c3, c4, c5, d0, d1, d2, d3, d4, d5⟩ := n0
  obtain ⟨e0, e1, e2, e3, e4, e5, f0, f1, f2, f3, f4, f5, g0, g1, g2, g3, g4, g5⟩ := n1
  go_enter Try.func26, Try.ntmps26
  go_wp2_with fail
  go_region
  · dsimp only [Exit.then]
    have PX := Lib.hid (((Blk.new (w.alloc (metBox m)) 42 [.int .i64 x.t, .int .i64 x.len, .int .i64 x.fl, .int .i64 x.st, .int .i64 x.hd, .int .i64 x.cl]).alloc (ntBox y)).drew)
    have QX := Lib.hid ((Blk.new ((w.alloc (metBox m)).alloc (ntBox x)) 42 [.int .i64 y.t, .int .i64 y.len, .int .i64 y.fl, .int .i64 y.st, .int .i64 y.hd, .int .i64 y.cl]).drew)
    have MX := Lib.hid (((BM.out.alloc (ntBox x)).alloc (ntBox y)).drew)
    have O9 := Lib.hid (((OM.out.alloc (ntBox x)).alloc (ntBox y)).drew)
    rw [show (w.alloc (metBox m)).heap.size = w.heap.size + 1 by simp] at PX
    rw [show ((w.alloc (metBox m)).alloc (ntBox x)).heap.size = w.heap.size + 1 + 1 by simp] at QX
    clear a0 a1 a2 a3 a4 a5 c0 c1 c2 c3 c4 c5 d0 d1 d2 d3 d4 d5 e0 e1 e2 e3 e4 e5 f0 f1 f2 f3 f4 f5 g0 g1 g2 g3 g4 g5
    obtain ⟨WQ, hWQ⟩ : ∃ WQ, (((w.alloc (metBox m)).alloc (ntBox x)).alloc (ntBox y)).drew = WQ := ⟨_, rfl⟩
    rw [hWQ] at PX QX MX O9 ⊢
    obtain ⟨Q, hQ⟩ : ∃ Q, w.heap.size + 1 + 1 = Q := ⟨_, rfl⟩
    rw [hQ] at QX ⊢
    obtain ⟨P, hP⟩ : ∃ P, w.heap.size + 1 = P := ⟨_, rfl⟩
    rw [hP] at PX ⊢
    clear hWQ hP hQ hb3 OM BM hb1 hb2
    have a0 := PX.out.cell 0
    have a1 := PX.out.cell 1
    have a2 := PX.out.cell 2
    have e0 := QX.out.cell 0
    have e2 := QX.out.cell 2
    have e3 := QX.out.cell 3
    simp only [List.getElem?_cons_zero, List.getElem?_cons_succ] at a0 a1 a2 e0 e2 e3
    obtain ⟨r1, hr1⟩ : ∃ r1, (x.fl == 0) = r1 := ⟨_, rfl⟩
    obtain ⟨r2, hr2⟩ : ∃ r2, (y.fl == 0) = r2 := ⟨_, rfl⟩
    obtain ⟨r3, hr3⟩ : ∃ r3, (x.t + x.len != y.t) = r3 := ⟨_, rfl⟩
    obtain ⟨r4, hr4⟩ : ∃ r4, (y.st == 1) = r4 := ⟨_, rfl⟩
    have HC := Lib.hid (show R = (!(r1 || r2 || r3 || r4) && decide (y.st = 2 ∨ u = v)) by
      rw [HJ.out, ← hr1, ← hr2, ← hr3, ← hr4, Bool.eq_iff_iff]
      simp [bne, and_assoc])
    clear HJ
    cases r1
    · cases r2
      · cases r3
        · cases r4
          · obtain ⟨n0, n1, n2, n3, n4, n5, n6, n7⟩ := met_near MX.out
            have k0 : ∀ i : Near [] WQ, i.W.cell? ⟨P, 0, none⟩ = some (.int .i64 x.t) := fun i => (PX.out.only i.only (by simp)).cell 0
            have k1 : ∀ i : Near [] WQ, i.W.cell? ⟨Q, 0, none⟩ = some (.int .i64 y.t) := fun i => (QX.out.only i.only (by simp)).cell 0
            have k2 : ∀ i : Near [] WQ, i.W.cell? ⟨Q, 3, none⟩ = some (.int .i64 y.st) := fun i => (QX.out.only i.only (by simp)).cell 3
            obtain ⟨r5, hr5⟩ : ∃ r5, (y.st == 2) = r5 := ⟨_, rfl⟩
            have HR5 := Lib.hid (show decide (y.st = 2) = r5 by rw [← hr5, Bool.beq_eq_decide_eq])
            cases r5
            · go_wp2_with fail
              refine wp_near [] (by kernel_rfl) (by kernel_rfl) ?_
              repeat (go_big_quiet_step ((first | (go_at_call 35; with_reducible exact near_call _ (HBA.out _)) | (go_at_call 35; with_reducible exact near_call _ (HBB.out _)))))
              refine wpQuiet_nil ?_
              intro ni
              obtain ⟨WR, pq⟩ := ni
              dsimp only
              clear n0 n1 n2 n3 n4 n5 n6 n7 k0 k1 k2
              go_wp2
              go_ret
              exact ⟨ret_bool (by rw [HC.out]; have := of_decide_eq_false HR5.out; simp [this, Bool.beq_eq_decide_eq]), O9.out.trans pq⟩
            · go_wp2_with fail
              refine wp_near [] (by kernel_rfl) (by kernel_rfl) ?_
              repeat (go_big_quiet_step (fail))
              refine wpQuiet_nil ?_
              intro ni
              obtain ⟨WR, pq⟩ := ni
              dsimp only
              clear n0 n1 n2 n3 n4 n5 n6 n7 k0 k1 k2
              go_wp2
              go_ret
              exact ⟨ret_bool (by rw [HC.out]; have := of_decide_eq_true HR5.out; simp [this]), O9.out.trans pq⟩
          · go_wp2_with fail
            go_ret
            exact ⟨ret_bool (by rw [HC.out]; simp), O9.out⟩
        · go_wp2_with fail
          go_ret
          exact ⟨ret_bool (by rw [HC.out]; simp), O9.out⟩
      · go_wp2_with fail
        go_ret
        exact ⟨ret_bool (by rw [HC.out]; simp), O9.out⟩
    · go_wp2_with fail
      go_ret
      exact ⟨ret_bool (by rw [HC.out]; simp), O9.out⟩
  · dsimp only [Exit.then]
    have QX := Lib.hid (((Blk.new (w.alloc (metBox m)) 42 [.int .i64 y.t, .int .i64 y.len, .int .i64 y.fl, .int .i64 y.st, .int .i64 y.hd, .int .i64 y.cl]).alloc (ntBox x)).drew)
    have PX := Lib.hid ((Blk.new ((w.alloc (metBox m)).alloc (ntBox y)) 42 [.int .i64 x.t, .int .i64 x.len, .int .i64 x.fl, .int .i64 x.st, .int .i64 x.hd, .int .i64 x.cl]).drew)
    have MX := Lib.hid (((BM.out.alloc (ntBox y)).alloc (ntBox x)).drew)
    have O9 := Lib.hid (((OM.out.alloc (ntBox y)).alloc (ntBox x)).drew)
    rw [show (w.alloc (metBox m)).heap.size = w.heap.size + 1 by simp] at QX
    rw [show ((w.alloc (metBox m)).alloc (ntBox y)).heap.size = w.heap.size + 1 + 1 by simp] at PX
    clear a0 a1 a2 a3 a4 a5 c0 c1 c2 c3 c4 c5 d0 d1 d2 d3 d4 d5 e0 e1 e2 e3 e4 e5 f0 f1 f2 f3 f4 f5 g0 g1 g2 g3 g4 g5
    obtain ⟨WQ, hWQ⟩ : ∃ WQ, (((w.alloc (metBox m)).alloc (ntBox y)).alloc (ntBox x)).drew = WQ := ⟨_, rfl⟩
    rw [hWQ] at PX QX MX O9 ⊢
    obtain ⟨P, hP⟩ : ∃ P, w.heap.size + 1 + 1 = P := ⟨_, rfl⟩
    rw [hP] at PX ⊢
    obtain ⟨Q, hQ⟩ : ∃ Q, w.heap.size + 1 = Q := ⟨_, rfl⟩
    rw [hQ] at QX ⊢
    clear hWQ hP hQ hb3 OM BM hb1 hb2
    have a0 := PX.out.cell 0
    have a1 := PX.out.cell 1
    have a2 := PX.out.cell 2
    have e0 := QX.out.cell 0
    have e2 := QX.out.cell 2
    have e3 := QX.out.cell 3
    simp only [List.getElem?_cons_zero, List.getElem?_cons_succ] at a0 a1 a2 e0 e2 e3
    obtain ⟨r1, hr1⟩ : ∃ r1, (x.fl == 0) = r1 := ⟨_, rfl⟩
    obtain ⟨r2, hr2⟩ : ∃ r2, (y.fl == 0) = r2 := ⟨_, rfl⟩
    obtain ⟨r3, hr3⟩ : ∃ r3, (x.t + x.len != y.t) = r3 := ⟨_, rfl⟩
    obtain ⟨r4, hr4⟩ : ∃ r4, (y.st == 1) = r4 := ⟨_, rfl⟩
    have HC := Lib.hid (show R = (!(r1 || r2 || r3 || r4) && decide (y.st = 2 ∨ u = v)) by
      rw [HJ.out, ← hr1, ← hr2, ← hr3, ← hr4, Bool.eq_iff_iff]
      simp [bne, and_assoc])
    clear HJ
    cases r1
    · cases r2
      · cases r3
        · cases r4
          · obtain ⟨n0, n1, n2, n3, n4, n5, n6, n7⟩ := met_near MX.out
            have k0 : ∀ i : Near [] WQ, i.W.cell? ⟨P, 0, none⟩ = some (.int .i64 x.t) := fun i => (PX.out.only i.only (by simp)).cell 0
            have k1 : ∀ i : Near [] WQ, i.W.cell? ⟨Q, 0, none⟩ = some (.int .i64 y.t) := fun i => (QX.out.only i.only (by simp)).cell 0
            have k2 : ∀ i : Near [] WQ, i.W.cell? ⟨Q, 3, none⟩ = some (.int .i64 y.st) := fun i => (QX.out.only i.only (by simp)).cell 3
            obtain ⟨r5, hr5⟩ : ∃ r5, (y.st == 2) = r5 := ⟨_, rfl⟩
            have HR5 := Lib.hid (show decide (y.st = 2) = r5 by rw [← hr5, Bool.beq_eq_decide_eq])
            cases r5
            · go_wp2_with fail
              refine wp_near [] (by kernel_rfl) (by kernel_rfl) ?_
              repeat (go_big_quiet_step ((first | (go_at_call 35; with_reducible exact near_call _ (HBA.out _)) | (go_at_call 35; with_reducible exact near_call _ (HBB.out _)))))
              refine wpQuiet_nil ?_
              intro ni
              obtain ⟨WR, pq⟩ := ni
              dsimp only
              clear n0 n1 n2 n3 n4 n5 n6 n7 k0 k1 k2
              go_wp2
              go_ret
              exact ⟨ret_bool (by rw [HC.out]; have := of_decide_eq_false HR5.out; simp [this, Bool.beq_eq_decide_eq]), O9.out.trans pq⟩
            · go_wp2_with fail
              refine wp_near [] (by kernel_rfl) (by kernel_rfl) ?_
              repeat (go_big_quiet_step (fail))
              refine wpQuiet_nil ?_
              intro ni
              obtain ⟨WR, pq⟩ := ni
              dsimp only
              clear n0 n1 n2 n3 n4 n5 n6 n7 k0 k1 k2
              go_wp2
              go_ret
              exact ⟨ret_bool (by rw [HC.out]; have := of_decide_eq_true HR5.out; simp [this]), O9.out.trans pq⟩
          · go_wp2_with fail
            go_ret
            exact ⟨ret_bool (by rw [HC.out]; simp), O9.out⟩
        · go_wp2_with fail
          go_ret
          exact ⟨ret_bool (by rw [HC.out]; simp), O9.out⟩
      · go_wp2_with fail
        go_ret
        exact ⟨ret_bool (by rw [HC.out]; simp), O9.out⟩
    · go_wp2_with fail
      go_ret
      exact ⟨ret_bool (by rw [HC.out]; simp), O9.out⟩
end Go.Proofs.Ytglkpoiajebleaa
