/- DERIVED. Contracts of package beam: the closure of Groups. -/
import Derived.Test.YtglkpoiajebleaaAll
namespace Go.Proofs.Ytglkpoiajebleaa
open Go.RowKit

abbrev ntV (x : Nt) : Value := .agg #[.int .i64 x.t, .int .i64 x.len, .int .i64 x.fl, .int .i64 x.st, .int .i64 x.hd, .int .i64 x.cl]
abbrev ntBox (x : Nt) : Obj := .cells #[.int .i64 x.t, .int .i64 x.len, .int .i64 x.fl, .int .i64 x.st, .int .i64 x.hd, .int .i64 x.cl] 42
/-- What the closure answers. -/
def joinB (m : Met) (gs : List Int) (off : Int) (a b : Nt) : Bool :=
  decide (b.t = a.t + a.len ∧ a.fl ≠ 0 ∧ b.fl ≠ 0 ∧ (b.st = 2 ∨ b.st = 0 ∧ (plc m gs (off + a.t)).1 = (plc m gs (off + b.t)).1 ∧ (plc m gs (off + a.t)).2.1 = (plc m gs (off + b.t)).2.1))

set_option maxRecDepth 20000 in
set_option maxHeartbeats 4000000 in
theorem joined_any {w : World} {M O : Nat} (m : Met) (hc : m.chk = 0) (gs : List Int) (hG : GrpC m gs) (hl : gs.length ≤ 64) (hg : ∀ x ∈ gs, 0 ≤ x ∧ x ≤ 64) (off : Int) (a b : Nt)
    (hM : Blk w M 36 (metL m)) (hO : Blk w O 3 [.int .i64 off]) (ha : a.Ok) (hb : b.Ok) (h0 : 0 ≤ off) (h1 : off + a.t ≤ 4398046511104) (h2 : off + b.t ≤ 4398046511104) :
    Calls Try.prog 24 #[ntV a, ntV b, .pointer (some ⟨M, 0, none⟩), .pointer (some ⟨O, 0, none⟩)] w fun e w' => e = .returned (.bool (joinB m gs off a b)) ∧ Only [] w w' := by
  have HJ := Lib.hid (show joinB m gs off a b = decide (b.t = a.t + a.len ∧ a.fl ≠ 0 ∧ b.fl ≠ 0 ∧ (b.st = 2 ∨ b.st = 0 ∧ (plc m gs (off + a.t)).1 = (plc m gs (off + b.t)).1 ∧ (plc m gs (off + a.t)).2.1 = (plc m gs (off + b.t)).2.1)) from rfl)
  obtain ⟨R, hR⟩ : ∃ R, joinB m gs off a b = R := ⟨_, rfl⟩
  rw [hR] at HJ ⊢
  clear hR
  have HPA := Lib.hid (place_any m hc gs hG hl hg (off + a.t) (by have := ha.c0; omega) h1)
  have HPB := Lib.hid (place_any m hc gs hG hl hg (off + b.t) (by have := hb.c0; omega) h2)
  obtain ⟨p, hp⟩ : ∃ p, plc m gs (off + a.t) = p := ⟨_, rfl⟩
  obtain ⟨q, hq⟩ : ∃ q, plc m gs (off + b.t) = q := ⟨_, rfl⟩
  rw [hp] at HPA HJ
  rw [hq] at HPB HJ
  obtain ⟨p1, p2, p3⟩ := p
  obtain ⟨q1, q2, q3⟩ := q
  dsimp only at HPA HPB HJ
  have ks : IntKind.i64.wrap (a.t + a.len) = a.t + a.len := IntWalk.i64_in _ (by have := ha.c0; have := ha.c1; omega)
  have ka : IntKind.i64.wrap (off + a.t) = off + a.t := IntWalk.i64_in _ (by have := ha.c0; omega)
  have kb : IntKind.i64.wrap (off + b.t) = off + b.t := IntWalk.i64_in _ (by have := hb.c0; omega)
  clear hG hl hg hp hq hc ha hb
  have HM := Lib.hid hM
  have HO := Lib.hid hO
  have O0 := Lib.hid ((((Only.refl [] w).alloc (ntBox a)).alloc (ntBox b)))
  clear hM hO
  by_cases c1 : b.t = a.t + a.len
  · by_cases c2 : a.fl = 0
    · have HR := Lib.hid (show R = false by rw [HJ.out]; simp [c2])
      go_enter Try.func24, Try.ntmps24
      go_wp2_with fail
      go_ret
      exact ⟨ret_bool HR.out.symm, ((Only.refl [] w).alloc _).alloc _⟩
    · by_cases c3 : b.fl = 0
      · have HR := Lib.hid (show R = false by rw [HJ.out]; simp [c3])
        go_enter Try.func24, Try.ntmps24
        go_wp2_with fail
        go_ret
        exact ⟨ret_bool HR.out.symm, ((Only.refl [] w).alloc _).alloc _⟩
      · have HR := Lib.hid (show R = decide (b.st = 2 ∨ b.st = 0 ∧ p1 = q1 ∧ p2 = q2) by rw [HJ.out]; simp [c1, c2, c3])
        obtain ⟨F, hF⟩ : ∃ F, a.t + a.len = F := ⟨_, rfl⟩
        rw [hF] at ks c1
        obtain ⟨bt, bl, bf, bs, bh, bcl⟩ := b
        dsimp only at *
        subst c1
        clear HJ
        have OA := Lib.hid (((Only.refl [] w).alloc (ntBox a)).alloc (ntBox ⟨bt, bl, bf, bs, bh, bcl⟩))
        have HM2 := Lib.hid (met_cells HM.out OA.out).1
        have HO2 := Lib.hid (HO.out.only OA.out (by simp))
        obtain ⟨-, m0, m1, m2, m3, m4, m5, m6, m7⟩ := met_cells HM.out OA.out
        have o0 := HO2.out.cell 0
        simp only [List.getElem?_cons_zero] at o0
        have d2 : (a.fl == 0) = false := by simpa using c2
        have d3 : (bf == 0) = false := by simpa using c3
        have BA := Lib.hid ((Blk.new w 42 [.int .i64 a.t, .int .i64 a.len, .int .i64 a.fl, .int .i64 a.st, .int .i64 a.hd, .int .i64 a.cl]).alloc (ntBox ⟨bt, bl, bf, bs, bh, bcl⟩))
        have BB := Lib.hid (Blk.new (w.alloc (ntBox a)) 42 [.int .i64 bt, .int .i64 bl, .int .i64 bf, .int .i64 bs, .int .i64 bh, .int .i64 bcl])
        have es : (w.alloc (ntBox a)).heap.size = w.heap.size + 1 := by simp
        rw [es] at BB
        clear c2 c3 es
        go_enter Try.func24, Try.ntmps24
        go_wp2_with (first
          | (go_at_call 25; refine (HPA.out _).mono ?_; rintro e w1 ⟨rfl, o1⟩; have HPA := 0; have O1 := Lib.hid (OA.out.trans o1); have q0 := (BB.out.only o1 (by simp)).cell 0; have q3 := (BB.out.only o1 (by simp)).cell 3; have o0 := (HO2.out.only o1 (by simp)).cell 0; simp only [List.getElem?_cons_zero, List.getElem?_cons_succ] at q0 q3 o0; obtain ⟨-, m0, m1, m2, m3, m4, m5, m6, m7⟩ := met_cells HM2.out o1)
          | (go_at_call 25; refine (HPB.out _).mono ?_; rintro e w2 ⟨rfl, o2⟩; have O2 := Lib.hid (O1.out.trans o2); have q3 := (BB.out.only (o1.trans o2) (by simp)).cell 3; simp only [List.getElem?_cons_zero, List.getElem?_cons_succ] at q3))
        all_goals go_ret
        all_goals exact ⟨ret_bool (by rw [HR.out]; simp_all [Bool.beq_eq_decide_eq]), O2.out⟩
  · have HR := Lib.hid (show R = false by rw [HJ.out]; simp [c1])
    go_enter Try.func24, Try.ntmps24
    go_wp2_with fail
    go_ret
    exact ⟨ret_bool HR.out.symm, ((Only.refl [] w).alloc _).alloc _⟩
end Go.Proofs.Ytglkpoiajebleaa
