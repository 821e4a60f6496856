/- DERIVED. The statements of chapter 26: hook. -/
import Derived.Test.YtglkpoiajebleaaRdp
import Derived.Test.YtglkpoiajebleaaBea
import Derived.Deep.RegionHeld3
namespace Go.Proofs.Ytglkpoiajebleaa
open Go.RowKit

set_option maxRecDepth 20000 in
set_option maxHeartbeats 16000000 in
theorem mhook_any {w : World} {A : Option Addr} {l : List Nt} (m : Met) (gs : List Int) (hG : GrpC m gs) (hgl : gs.length ≤ 64) (hg0 : 0 < gs.length) (hg : ∀ x ∈ gs, 0 ≤ x ∧ x ≤ 64) (off : Int) (c : Nat) (h : NotesAt w A l) (hl : l.length ≤ 128) (hb : allE m off l = 0) (F K i : Nat) (hFi : F ≤ i) (hiK : i ≤ K) (hKl : K < l.length) :
    Calls Try.prog 36 #[metV m, .int .i64 off, .slice A l.length c, grpV F K, .int .i64 i] w fun e w' => e = .returned (.int .i64 (hookE m gs off l F K i i)) ∧ Only [] w w' := by
  obtain ⟨hck, hof, hnt, hlt⟩ := allE_zero hb
  have H := Lib.hid h
  have HTR : Hid (∀ i, i < l.length → 0 ≤ off + (ntAt l i).t ∧ off + (ntAt l i).t ≤ 4398046511104) := Lib.hid fun i hi => by
    rw [show ntAt l i = l[i] by simp [ntAt, hi]]
    have := (ntE_ok l none hnt _ (List.getElem_mem hi)).c0
    have := hlt _ (List.getElem_mem hi)
    omega
  have HLV := Lib.hid fun (t : Int) (h1 : 0 ≤ t) (h2 : t ≤ 4398046511104) => Level_any m hck gs hG hgl hg0 hg t h1 h2
  have O0 := Lib.hid (((Only.refl [] w).alloc (metBox m)).alloc (.cells #[.int .i64 (F : Int), .int .i64 (K : Int)] 40))
  have BG := Lib.hid (Blk.new (w.alloc (metBox m)) 40 [.int .i64 (F : Int), .int .i64 (K : Int)])
  have BM := Lib.hid (show Blk ((w.alloc (metBox m)).alloc (.cells #[.int .i64 (F : Int), .int .i64 (K : Int)] 40)) w.heap.size 36 (metL m) from (Blk.new w 36 (metL m)).alloc _)
  rw [show (w.alloc (metBox m)).heap.size = w.heap.size + 1 by simp] at BG
  have HH : Hid (hookE m gs off l F K i i = if i = F ∨ i < K ∧ levE m gs ((off + (ntAt l i).t) % m.len) < levE m gs ((off + (ntAt l (i + 1)).t) % m.len) then 1 else -1) := Lib.hid (by unfold hookE; rw [if_pos rfl])
  obtain ⟨R, hR⟩ : ∃ R, hookE m gs off l F K i i = R := ⟨_, rfl⟩
  rw [hR] at HH ⊢
  clear hR hb hck hof hnt hlt hG
  by_cases hiF : i = F
  · subst hiF
    have HV := Lib.hid (show R = 1 by rw [HH.out, if_pos (.inl rfl)])
    have z1 : ((i : Int) == (i : Int)) = true := by simp
    clear h
    go_enter Try.func36, Try.ntmps36
    go_wp2_with fail
    go_ret
    exact ⟨ret_int HV.out.symm, O0.out⟩
  · have z1 : ((i : Int) == (F : Int)) = false := by
      have : ¬ (i : Int) = (F : Int) := by omega
      simpa using this
    by_cases hik : i < K
    · have hi1 : i + 1 < l.length := by omega
      have tr0 := HTR.out i (by omega)
      have tr1 := HTR.out (i + 1) hi1
      obtain ⟨b, o, rfl, hb1, hcs⟩ := h i (by omega)
      obtain ⟨b', o', hA', hb2, hds⟩ := h (i + 1) hi1
      simp only [Option.some.injEq, Addr.mk.injEq, and_true] at hA'
      obtain ⟨rfl, rfl⟩ := hA'
      have ea : ntAt l i = l[i] := by simp [ntAt, show i < l.length by omega]
      have eb : ntAt l (i + 1) = l[i + 1] := by simp [ntAt, hi1]
      rw [← ea] at hcs
      rw [← eb] at hds
      have m0 := hcs 0 (by omega)
      have p0 := hds 0 (by omega)
      simp only [Nt.vs, List.getElem?_cons_zero, Nat.add_zero] at m0 p0
      have HLA := Lib.hid (HLV.out _ tr0.1 tr0.2)
      have HLB := Lib.hid (HLV.out _ tr1.1 tr1.2)
      obtain ⟨x, hx⟩ : ∃ x, ntAt l i = x := ⟨_, rfl⟩
      obtain ⟨y, hy⟩ : ∃ y, ntAt l (i + 1) = y := ⟨_, rfl⟩
      rw [hx] at m0 tr0 HLA HH
      rw [hy] at p0 tr1 HLB HH
      obtain ⟨u, hu⟩ : ∃ u, levE m gs ((off + x.t) % m.len) = u := ⟨_, rfl⟩
      obtain ⟨v, hv⟩ : ∃ v, levE m gs ((off + y.t) % m.len) = v := ⟨_, rfl⟩
      rw [hu] at HLA HH
      rw [hv] at HLB HH
      have ka : IntKind.i64.wrap (off + x.t) = off + x.t := IntWalk.i64_in _ (by omega)
      have kb : IntKind.i64.wrap (off + y.t) = off + y.t := IntWalk.i64_in _ (by omega)
      have i0 : (0 : Int) ≤ (i : Int) := by omega
      have i1 : (i : Int) < (l.length : Int) := by omega
      have i2 : (0 : Int) ≤ (i : Int) + 1 := by omega
      have i3 : (i : Int) + 1 < (l.length : Int) := by omega
      have i4 : (i : Int) < (K : Int) := by omega
      have i5 : IntKind.i64.wrap ((i : Int) + 1) = (i : Int) + 1 := IntWalk.i64_in _ (by omega)
      have M0 := Lib.hid m0
      have P0 := Lib.hid p0
      have HBB := Lib.hid hb1
      have HIF := Lib.hid hiF
      have HIK := Lib.hid hik
      clear h hcs hds hx hy hu hv ea eb hb1 hb2 m0 p0 hiF hik
      go_enter Try.func36, Try.ntmps36
      go_wp2_with fail
      obtain ⟨W, hW⟩ : ∃ W, (w.alloc (metBox m)).alloc (.cells #[.int .i64 (F : Int), .int .i64 (K : Int)] 40) = W := ⟨_, rfl⟩
      unfold metBox at hW BG BM O0
      rw [hW] at BG BM O0 ⊢
      clear hW
      have KEEP := Lib.hid fun (X : World) (hX : Only [] W X) => let q := (BG.out.only hX (by simp)); let c := (met_cells BM.out hX).2;
        show X.cell? ⟨w.heap.size, 0, none⟩ = some (.int .i64 m.c) ∧ X.cell? ⟨w.heap.size, 1, none⟩ = some (.int .i64 m.u) ∧ X.cell? ⟨w.heap.size, 2, none⟩ = some (.int .i64 m.g0) ∧ X.cell? ⟨w.heap.size, 3, none⟩ = some (.int .i64 m.g1) ∧ X.cell? ⟨w.heap.size, 4, none⟩ = some (.int .i64 m.g2) ∧ X.cell? ⟨w.heap.size, 5, none⟩ = some (.int .i64 m.g3) ∧ X.cell? ⟨w.heap.size, 6, none⟩ = some (.int .i64 m.g4) ∧ X.cell? ⟨w.heap.size, 7, none⟩ = some (.int .i64 m.g5) ∧ X.cell? ⟨w.heap.size + 1, 0, none⟩ = some (.int .i64 (F : Int)) ∧ X.cell? ⟨w.heap.size + 1, 1, none⟩ = some (.int .i64 (K : Int)) ∧ X.cell? ⟨b, o + i * 6, none⟩ = some (.int .i64 x.t) ∧ X.cell? ⟨b, o + (i + 1) * 6, none⟩ = some (.int .i64 y.t) from
          ⟨c.1, c.2.1, c.2.2.1, c.2.2.2.1, c.2.2.2.2.1, c.2.2.2.2.2.1, c.2.2.2.2.2.2.1, c.2.2.2.2.2.2.2, q.cell 0, q.cell 1, ((O0.out.trans hX).cell (p := ⟨b, o + i * 6, none⟩) HBB.out (by simp)).trans M0.out, ((O0.out.trans hX).cell (p := ⟨b, o + (i + 1) * 6, none⟩) HBB.out (by simp)).trans P0.out⟩
      have R0 := Lib.hid (Only.refl [] W)
      have k0 := KEEP.out _ R0.out
      go_region_held3 (fun X => X.cell? ⟨w.heap.size, 0, none⟩ = some (.int .i64 m.c) ∧ X.cell? ⟨w.heap.size, 1, none⟩ = some (.int .i64 m.u) ∧ X.cell? ⟨w.heap.size, 2, none⟩ = some (.int .i64 m.g0) ∧ X.cell? ⟨w.heap.size, 3, none⟩ = some (.int .i64 m.g1) ∧ X.cell? ⟨w.heap.size, 4, none⟩ = some (.int .i64 m.g2) ∧ X.cell? ⟨w.heap.size, 5, none⟩ = some (.int .i64 m.g3) ∧ X.cell? ⟨w.heap.size, 6, none⟩ = some (.int .i64 m.g4) ∧ X.cell? ⟨w.heap.size, 7, none⟩ = some (.int .i64 m.g5) ∧ X.cell? ⟨w.heap.size + 1, 0, none⟩ = some (.int .i64 (F : Int)) ∧ X.cell? ⟨w.heap.size + 1, 1, none⟩ = some (.int .i64 (K : Int)) ∧ X.cell? ⟨b, o + i * 6, none⟩ = some (.int .i64 x.t) ∧ X.cell? ⟨b, o + (i + 1) * 6, none⟩ = some (.int .i64 y.t)) (first | exact k0 | exact KEEP.out _ R0.out | exact KEEP.out _ R0.out.drew | exact KEEP.out _ O1.out) (first
        | (go_at_call 41; refine (HLA.out _).mono ?_; rintro e w1 ⟨rfl, o1⟩; have O1 := Lib.hid (R0.out.drew.trans o1)))
      have k1 := KEEP.out _ O1.out
      clear k0
      go_wp2_with fail
      go_region_held3 (fun X => X.cell? ⟨w.heap.size, 0, none⟩ = some (.int .i64 m.c) ∧ X.cell? ⟨w.heap.size, 1, none⟩ = some (.int .i64 m.u) ∧ X.cell? ⟨w.heap.size, 2, none⟩ = some (.int .i64 m.g0) ∧ X.cell? ⟨w.heap.size, 3, none⟩ = some (.int .i64 m.g1) ∧ X.cell? ⟨w.heap.size, 4, none⟩ = some (.int .i64 m.g2) ∧ X.cell? ⟨w.heap.size, 5, none⟩ = some (.int .i64 m.g3) ∧ X.cell? ⟨w.heap.size, 6, none⟩ = some (.int .i64 m.g4) ∧ X.cell? ⟨w.heap.size, 7, none⟩ = some (.int .i64 m.g5) ∧ X.cell? ⟨w.heap.size + 1, 0, none⟩ = some (.int .i64 (F : Int)) ∧ X.cell? ⟨w.heap.size + 1, 1, none⟩ = some (.int .i64 (K : Int)) ∧ X.cell? ⟨b, o + i * 6, none⟩ = some (.int .i64 x.t) ∧ X.cell? ⟨b, o + (i + 1) * 6, none⟩ = some (.int .i64 y.t)) (first | exact k1 | exact KEEP.out _ O1.out | exact KEEP.out _ O1.out.drew | exact KEEP.out _ O2.out) (first
        | (go_at_call 41; refine (HLB.out _).mono ?_; rintro e w2 ⟨rfl, o2⟩; have O2 := Lib.hid (O1.out.drew.trans o2)))
      by_cases huv : u < v
      · have HV := Lib.hid (show R = 1 by rw [HH.out, if_pos (.inr ⟨HIK.out, huv⟩)])
        go_wp2_with fail
        go_ret
        exact ⟨ret_int HV.out.symm, O0.out.trans O2.out⟩
      · have HV := Lib.hid (show R = -1 by rw [HH.out, if_neg (by rintro (h | h); exact HIF.out h; exact huv h.2)])
        go_wp2_with fail
        go_ret
        exact ⟨ret_int HV.out.symm, O0.out.trans O2.out⟩
    · have HV := Lib.hid (show R = -1 by rw [HH.out, if_neg (by omega)])
      have i4 : ¬ (i : Int) < (K : Int) := by omega
      clear h
      go_enter Try.func36, Try.ntmps36
      go_wp2_with fail
      go_ret
      exact ⟨ret_int HV.out.symm, O0.out⟩
end Go.Proofs.Ytglkpoiajebleaa
