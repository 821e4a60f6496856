/- DERIVED. Vertical: checkGaps, the distances. -/
import Derived.Test.YticpophdoiljfaaStkA
namespace Go.Proofs.Yticpophdoiljfaa
open Go.RowKit
attribute [local go_sem ↓] Go.wp_at_zero Go.wp_at_succ

theorem distM_of {h h' : List Int} {M : Int} (hl : h.length = h'.length) (hM : DistOK h h' M) : distM h h' = M := by
  refine maxL_uniq (fun x hx => ?_) ?_
  · obtain ⟨i, hi, rfl⟩ := List.mem_iff_getElem.1 hx
    rw [sums_len hl] at hi
    rw [sums_get i hi (by omega)]
    exact hM.le i hi (by omega)
  · obtain ⟨j, h1, h2, e⟩ := hM.ex
    rw [← e, ← sums_get j h1 h2 (by rw [sums_len hl]; exact h1)]
    exact List.getElem_mem _
theorem dist_is {w : World} {s g s' g' : Nat} {h h' : List Int} (hs : Sky w s g (-1) h) (hs' : Sky w s' g' 1 h') (hl : h.length = h'.length) (gap : Int) (h0 : 0 ≤ gap) (h1 : gap ≤ 65536) :
    Calls Try.prog 57 #[.pointer (some ⟨s, 0, none⟩), .pointer (some ⟨s', 0, none⟩), .int .i64 gap] w
      fun e w' => e = .returned (.tuple #[.int .i64 (distM h h' + gap), .int .i64 0]) ∧ ∃ n, w' = w.drewN n :=
  (dist_ok hs hs' hl gap (sizeB_iff.2 (by omega))).mono fun e w' ⟨⟨M, he, hM⟩, hn⟩ => ⟨by rw [he, distM_of hl hM], hn⟩
theorem distM_low {h h' : List Int} (hl : h.length = h'.length) (h0 : 0 < h.length) (a : ∀ x ∈ h, 0 ≤ x ∧ x ≤ 8128) (b : ∀ x ∈ h', 0 ≤ x ∧ x ≤ 8128) : 0 ≤ distM h h' ∧ distM h h' ≤ 16256 := by
  refine maxL_low 0 16256 (by rw [sums_len hl]; exact h0) fun x hx => ?_
  obtain ⟨i, hi, rfl⟩ := List.mem_iff_getElem.1 hx
  rw [sums_len hl] at hi
  rw [sums_get i hi (by omega)]
  have := a h[i] (List.getElem_mem _)
  have := b h'[i] (List.getElem_mem _)
  omega

set_option maxRecDepth 20000 in
set_option maxHeartbeats 1000000 in
theorem checkGaps_ok {w : World} {k n : Nat} {l : List StaffR} (cap : Nat) (h : Stv w k l n) (gap least : Int) (h0 : 0 ≤ gap) (h1 : gap ≤ 65536) (h2 : 1 ≤ least) (h3 : least ≤ 65536) :
    Calls Try.prog 37 #[.slice (some ⟨k, 0, none⟩) l.length cap, .int .i64 gap, .int .i64 least] w fun e w' => e = .returned (.int .i64 0) ∧ Only [] w w' := by
  have H := Lib.hid h
  clear h
  go_enter Try.func37, Try.ntmps37
  go_wp2_with (go_at_call 34; refine (Check_ok cap H.out).mono ?_; rintro e w' ⟨rfl, ho⟩)
  go_ret
  exact ⟨rfl, ho⟩

/-- Integers that are read through a slice. -/
def IntsAt (w : World) (A : Option Addr) (l : List Int) : Prop := ∀ i (hi : i < l.length), ∃ b off, A = some ⟨b, off, none⟩ ∧ b < w.heap.size ∧ w.cell? ⟨b, off + i, none⟩ = some (.int .i64 l[i])
theorem IntsAt.only {w w' : World} {S : List Nat} {A : Option Addr} {l : List Int} (h : IntsAt w A l) (ho : Only S w w') (hS : ∀ q ∈ S, w.heap.size ≤ q) : IntsAt w' A l := by
  intro i hi
  obtain ⟨b, off, hA, hb, hc⟩ := h i hi
  exact ⟨b, off, hA, Nat.lt_of_lt_of_le hb ho.size, (ho.cell (p := ⟨b, off + i, none⟩) hb (fun e => absurd hb (Nat.not_lt.2 (hS _ e)))).trans hc⟩
theorem ints_of_own {w : World} {base g n cap : Nat} {l : List Int} (h : w.ownsRow base 3 1 (.slice (some ⟨g, 0, none⟩) n cap) n (l.map (.int .i64))) : IntsAt w (some ⟨g, 0, none⟩) l := by
  intro i hi
  have hb := h.lt g rfl
  have := h.cells (g := g) rfl i (.int .i64 l[i]) (by simp [hi])
  exact ⟨g, 0, rfl, hb.2, by rw [← this]; simp [Addr.add]; split <;> simp_all⟩

theorem own_drewN {w : World} {base n size : Nat} {e : TypeId} {v : Value} {xs : List Value} (h : w.ownsRow base e size v n xs) (q : Nat) : (w.drewN q).ownsRow base e size v n xs := h
theorem own_base {w : World} {base base' n size : Nat} {e : TypeId} {v : Value} {xs : List Value} (h : w.ownsRow base e size v n xs) (hb : base' ≤ base) : w.ownsRow base' e size v n xs := by
  refine ⟨h.1, ?_⟩
  rcases h.2 with hn | ⟨g, cap, cur, hv, hg, hr⟩
  · exact .inl hn
  · exact .inr ⟨g, cap, cur, hv, Nat.le_trans hb hg, hr⟩

def dAt (L : List SV) (gap least : Int) (i : Nat) : Int := distV (L.getD i ⟨[], [], 0⟩) (L.getD (i + 1) ⟨[], [], 0⟩) gap least
theorem getD_map {l : List StaffR} {i : Nat} (hi : i < l.length) : (l.map StaffR.v).getD i ⟨[], [], 0⟩ = l[i].v := by simp [List.getD, hi]

set_option maxRecDepth 20000 in
set_option maxHeartbeats 2000000 in
theorem distances_any {w : World} {k n : Nat} {l : List StaffR} (cap : Nat) (h : Stv w k l n) (gap least : Int) (h0 : 0 ≤ gap) (h1 : gap ≤ 65536) (h2 : 1 ≤ least) (h3 : least ≤ 65536) :
    Calls Try.prog 38 #[.slice (some ⟨k, 0, none⟩) l.length cap, .int .i64 gap, .int .i64 least] w
      fun e w' => ∃ v, e = .returned v ∧ w'.ownsRow w.heap.size 3 1 v (l.length - 1) ((dists (l.map StaffR.v) gap least).map (.int .i64)) ∧ Only [] w w' := by
  obtain ⟨i0, hi0, hz0, hz1, hz2⟩ := info_parts int_info
  have hp := h.pos
  have hf := h.few
  have H := Lib.hid h
  clear h
  go_enter Try.func38, Try.ntmps38
  go_wp2
  go_loopw [7, 8] (fun o i wr => ∃ (j : Nat) (v : Value), j + 1 ≤ l.length ∧ i = .int .i64 (j + 1 : Nat) ∧ v = o ∧ wr.ownsRow w.heap.size 3 1 v j (((List.range j).map (dAt (l.map StaffR.v) gap least)).map (.int .i64)) ∧ Only [] w wr) (fun _ i _ => l.length - (intOf i).toNat)
  case atStart => exact ⟨0, _, by omega, rfl, rfl, World.ownsRow_nil _ _ _ _, Only.refl _ _⟩
  case round =>
    obtain ⟨j, v, hj, rfl, rfl, hown, hO⟩ := hrel
    by_cases hlt : j + 1 < l.length
    · have hS := H.out.newer hO (by simp)
      have j0 : (0 : Int) ≤ ((j + 1 : Nat) : Int) := by omega
      have j1 : ((j + 1 : Nat) : Int) < (l.length : Int) := by omega
      have j2 : (((j + 1 : Nat) : Int) - 1) = (j : Int) := by omega
      have j3 : IntKind.i64.wrap ((j : Int)) = (j : Int) := IntWalk.i64_in _ (by omega)
      have j4 : (0 : Int) ≤ (j : Int) := by omega
      have j5 : (j : Int) < (l.length : Int) := by omega
      have c1 : wr.cell? ⟨k, j * 3 + 1, none⟩ = some (.pointer (some ⟨l[j].sb, 0, none⟩)) := hS.cell j (by omega) 1 _ rfl
      have c0 : wr.cell? ⟨k, (j + 1) * 3, none⟩ = some (.pointer (some ⟨l[j + 1].sa, 0, none⟩)) := hS.cell (j + 1) hlt 0 _ rfl
      have hok := hS.ok j (by omega)
      have hok1 := hS.ok (j + 1) hlt
      have hl := hok.lb.trans hok1.la.symm
      have hM := distM_low hl (by rw [hok.lb]; exact hS.npos) (hS.low j (by omega)).2 (hS.low (j + 1) hlt).1
      have HD : Hid (dAt (l.map StaffR.v) gap least j = max least (distM l[j].v.hb l[j + 1].v.ha + gap)) := Lib.hid (by
        rw [dAt, getD_map (by omega), getD_map hlt]; rfl)
      have C := Lib.hid (fun i => dist_is (hok.below.drewN i) (hok1.above.drewN i) hl gap h0 h1)
      generalize distM l[j].v.hb l[j + 1].v.ha = M at *
      obtain ⟨M2, hM2⟩ : ∃ M2, (if least < M + gap then M + gap else least) = M2 := ⟨_, rfl⟩
      have HM2 : Hid (dAt (l.map StaffR.v) gap least j = M2) := Lib.hid (by rw [HD.out, ← hM2]; omega)
      have HOWN := Lib.hid hown
      clear hS hok hok1 hl HD hown
      go_wp2
      go_quiet ((go_at_call 57; exact Calls.quiet_of (C.out _)))
      have hown := own_drewN HOWN.out nq
      have hsz := hO.size
      go_wp2_with (at_builtin; refine wpList_append_lies _ rfl _ _ _ rfl w.heap.size 3 i0 _ 1 8 Try.underlying22 hi0 hz0 hz1 hz2 rfl (by omega) _ j _ rfl (hown.alloc _) ⟨wr.heap.size, 0, none⟩ 1 1 [.int .i64 M2] rfl rfl (World.news_of_block (heap_alloc_new _ _)) (by simp [Value.oneCell']) (by omega) (by simp only [maxLen]; omega) (by omega) (by simp; omega) (wr.heap.size + 1) (by simp) ?_; intro gg cap w5 hown1 hgrow hat hlt2)
      go_roundw
      case rel =>
        refine ⟨j + 1, _, by omega, by go_num, rfl, ?_, ((hO.drewN nq).alloc _).grown hgrow fun q hq => .inr (hown.lt q hq).1⟩
        rw [List.range_succ, List.map_append, List.map_append, List.map_singleton, List.map_singleton, HM2.out]
        exact hown1
      case measure => simp [intOf]; omega
    · go_wp2
      go_ret
      refine ⟨_, rfl, ?_, hO⟩
      rw [show l.length - 1 = j by omega]
      have e : dists (l.map StaffR.v) gap least = (List.range j).map (dAt (l.map StaffR.v) gap least) := by
        rw [dists, List.length_map, show l.length - 1 = j by omega]
        rfl
      rw [e]
      exact hown

set_option maxRecDepth 20000 in
set_option maxHeartbeats 1000000 in
theorem Distances_ok {w : World} {k n : Nat} {l : List StaffR} (cap : Nat) (h : Stv w k l n) (gap least : Int) (h0 : 0 ≤ gap) (h1 : gap ≤ 65536) (h2 : 1 ≤ least) (h3 : least ≤ 65536) :
    Calls Try.prog 21 #[.slice (some ⟨k, 0, none⟩) l.length cap, .int .i64 gap, .int .i64 least] w
      fun e w' => ∃ v, e = .returned (.tuple #[v, .int .i64 0]) ∧ w'.ownsRow w.heap.size 3 1 v (l.length - 1) ((dists (l.map StaffR.v) gap least).map (.int .i64)) ∧ Only [] w w' := by
  have H := Lib.hid h
  clear h
  go_enter Try.func21, Try.ntmps21
  go_wp2_with (first
    | (go_at_call 37; refine (checkGaps_ok cap H.out gap least h0 h1 h2 h3).mono ?_; rintro e w1 ⟨rfl, ho⟩)
    | (go_at_call 38; refine (distances_any cap (H.out.newer ho (by simp)) gap least h0 h1 h2 h3).mono ?_; rintro e w2 ⟨v, rfl, hown, ho2⟩))
  go_ret2
  refine ⟨v, rfl, ?_, ho.trans ho2⟩
  exact own_base hown ho.size

set_option maxRecDepth 20000 in
set_option maxHeartbeats 400000 in
theorem above_fn (p q : Option Addr) (d : Int) (w : World) : Calls Try.prog 40 #[.agg #[.pointer p, .pointer q, .int .i64 d]] w fun e w' => e = .returned (.pointer p) ∧ Only [] w w' := by
  go_enter Try.func40, Try.ntmps40
  go_wp2
  go_ret
  exact ⟨rfl, (Only.refl _ _).alloc _⟩
set_option maxRecDepth 20000 in
set_option maxHeartbeats 400000 in
theorem below_fn (p q : Option Addr) (d : Int) (w : World) : Calls Try.prog 42 #[.agg #[.pointer p, .pointer q, .int .i64 d]] w fun e w' => e = .returned (.pointer q) ∧ Only [] w w' := by
  go_enter Try.func42, Try.ntmps42
  go_wp2
  go_ret
  exact ⟨rfl, (Only.refl _ _).alloc _⟩
set_option maxRecDepth 20000 in
set_option maxHeartbeats 400000 in
theorem max_fn (a b : Int) (w : World) : Calls Try.prog 41 #[.int .i64 a, .int .i64 b] w fun e w' => e = .returned (.int .i64 (max a b)) ∧ w = w' := by
  obtain ⟨m, hm⟩ : ∃ m, (if a < b then b else a) = m := ⟨_, rfl⟩
  have HM : Hid (max a b = m) := Lib.hid (by omega)
  go_enter Try.func41, Try.ntmps41
  go_wp2
  go_ret
  exact ⟨ret_int HM.out.symm, rfl⟩
set_option maxRecDepth 20000 in
set_option maxHeartbeats 400000 in
theorem min_fn (a b : Int) (w : World) : Calls Try.prog 43 #[.int .i64 a, .int .i64 b] w fun e w' => e = .returned (.int .i64 (min a b)) ∧ w = w' := by
  obtain ⟨m, hm⟩ : ∃ m, (if b < a then b else a) = m := ⟨_, rfl⟩
  have HM : Hid (min a b = m) := Lib.hid (by omega)
  go_enter Try.func43, Try.ntmps43
  go_wp2
  go_ret
  exact ⟨ret_int HM.out.symm, rfl⟩
end Go.Proofs.Yticpophdoiljfaa
