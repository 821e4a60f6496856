/- DERIVED. Contracts of package metre: beats. -/
import Derived.Test.YtglkpoiajebleaaGrp
import Derived.Deep.AppendLies
namespace Go.Proofs.Ytglkpoiajebleaa
open Go.RowKit

theorem own_ints {w : World} {base n : Nat} {v : Value} {l : List Int} (h : w.ownsRow base 3 1 v n (l.map (.int .i64))) :
    ∃ A c, v = .slice A n c ∧ l.length = n ∧ ∀ i (hi : i < l.length), ∃ D, A = some ⟨D, 0, none⟩ ∧ base ≤ D ∧ D < w.heap.size ∧ w.cell? ⟨D, i, none⟩ = some (.int .i64 l[i]) := by
  have hl : l.length = n := by have := h.1; simpa using this
  rcases h.2 with ⟨hv, hn⟩ | ⟨g, cap, cur, rfl, hb, hg, hr⟩
  · refine ⟨none, 0, by rw [hv, hn], hl, fun i hi => absurd hi (by omega)⟩
  · refine ⟨_, _, rfl, hl, fun i hi => ⟨g, rfl, hb, (h.lt g rfl).2, ?_⟩⟩
    rw [h.cellAt i (by omega)]
    simp [hi]

theorem own_only {w w' : World} {base n size : Nat} {e : TypeId} {v : Value} {xs : List Value} {S : List Nat} (h : w.ownsRow base e size v n xs) (ho : Only S w w') (hS : ∀ k, v.ownBlock = some k → k ∉ S) : w'.ownsRow base e size v n xs := by
  refine ⟨h.1, ?_⟩
  rcases h.2 with hn | ⟨g, cap, cur, rfl, hb, hg, hr⟩
  · exact .inl hn
  · exact .inr ⟨g, cap, cur, rfl, hb, (ho.block g (Array.getElem?_eq_some_iff.1 hg).1 (hS g rfl)).trans hg, hr⟩


/-- What groups gives, of a metre. -/
def GrpC (m : Met) (gs : List Int) : Prop := ∀ w, Calls Try.prog 48 #[metV m] w fun e w' => ∃ g cap, e = .returned (.slice (some ⟨g, 0, none⟩) gs.length cap) ∧ w.heap.size ≤ g ∧ Row w' g gs ∧ Only [] w w'
/-- Where the groups begin. -/
def bts (un : Int) : List Int → Int → List Int
  | [], _ => []
  | g :: r, t => t :: bts un r (t + g * un)
def btsEnd (un : Int) : List Int → Int → Int
  | [], t => t
  | g :: r, t => btsEnd un r (t + g * un)
theorem bts_len (un : Int) : ∀ (l : List Int) (t : Int), (bts un l t).length = l.length
  | [], _ => rfl
  | g :: r, t => by simp [bts, bts_len un r]
theorem bts_snoc (un x : Int) : ∀ (l : List Int) (t : Int), bts un (l ++ [x]) t = bts un l t ++ [btsEnd un l t] ∧ btsEnd un (l ++ [x]) t = btsEnd un l t + x * un
  | [], _ => by simp [bts, btsEnd]
  | g :: r, t => by
    have h := bts_snoc un x r (t + g * un)
    simp [bts, btsEnd, h]
theorem btsEnd_rng {un : Int} (h1 : 0 ≤ un) (h2 : un ≤ 1935360) : ∀ (l : List Int) (t : Int), (∀ x ∈ l, 0 ≤ x ∧ x ≤ 64) → t ≤ btsEnd un l t ∧ btsEnd un l t ≤ t + 123863040 * (l.length : Int)
  | [], t, _ => by simp [btsEnd]
  | g :: r, t, h => by
    have ih := btsEnd_rng h1 h2 r (t + g * un) (fun x hx => h x (by simp [hx]))
    have hg := h g (by simp)
    have e1 : 0 ≤ g * un := Int.mul_nonneg hg.1 h1
    have e2 : g * un ≤ 64 * 1935360 := Int.mul_le_mul hg.2 h2 h1 (by omega)
    simp only [btsEnd, List.length_cons]
    generalize g * un = p at *
    omega

set_option maxRecDepth 20000 in
set_option maxHeartbeats 4000000 in
theorem beats_any (m : Met) (hk : m.Ok) (gs : List Int) (hG : GrpC m gs) (hl : gs.length ≤ 64) (hg : ∀ x ∈ gs, 0 ≤ x ∧ x ≤ 64) (w : World) :
    Calls Try.prog 45 #[metV m] w fun e w' => ∃ A cap, e = .returned (.slice A gs.length cap) ∧ (∀ i (h : i < (bts m.un gs 0).length), ∃ D, A = some ⟨D, 0, none⟩ ∧ w.heap.size ≤ D ∧ w'.cell? ⟨D, i, none⟩ = some (.int .i64 (bts m.un gs 0)[i])) ∧ Only [] w w' := by
  obtain ⟨i0, hi0, hz0, hz1, hz2⟩ := info_parts int_info
  have HU := Lib.hid (unit_any m hk.u1 hk.u2)
  have hr := un_rng hk.u1 hk.u2
  obtain ⟨u, hu⟩ : ∃ u, m.un = u := ⟨_, rfl⟩
  have HUU := Lib.hid hu
  have hu1 : 0 ≤ u ∧ u ≤ 1935360 := by rw [← hu]; unfold Met.un; omega
  rw [hu] at HU ⊢
  have HGC := Lib.hid hG
  have HGR := Lib.hid hg
  have BB := Lib.hid (Blk.new w 36 (metL m))
  clear hr hu hG hg hk
  go_enter Try.func45, Try.ntmps45
  go_wp2_with (go_at_call 48; refine (HGC.out _).mono ?_; rintro e w1 ⟨g, gc, rfl, hgB, hrow, o1⟩; obtain ⟨b1, b10, b11, b12, b13, b14, b15, b16, b17⟩ := met_cells BB.out o1)
  have HROW := Lib.hid hrow
  have O1 := Lib.hid (((Only.refl [] w).alloc (metBox m)).trans o1)
  have BM := Lib.hid b1
  clear b1 b10 b11 b12 b13 b14 b15 b16 b17 hrow o1
  go_loopw [3, 4, 10] (fun o t i wr => ∃ (j : Nat) (v : Value), j ≤ gs.length ∧ i = .int .i64 j ∧ v = o ∧ t = .int .i64 (btsEnd u (gs.take j) 0) ∧ wr.ownsRow w1.heap.size 3 1 v j ((bts u (gs.take j) 0).map (.int .i64)) ∧ Only [] w1 wr) (fun _ _ i _ => gs.length - (intOf i).toNat)
  case atStart => exact ⟨0, _, by omega, rfl, rfl, rfl, World.ownsRow_nil _ _ _ _, Only.refl _ _⟩
  case round =>
    obtain ⟨j, v, hj, rfl, rfl, rfl, hown, hO⟩ := hrel
    by_cases hlt : j < gs.length
    · have hsz := hO.size
      have hwl := (World.block_lt_of_cell? _ _ ((met_cells BM.out (Only.refl [] _)).2.1))
      have c2 := (HROW.out.only hO) j hlt
      have BW := Lib.hid (BM.out.only hO (by simp))
      obtain ⟨b1, b10, b11, b12, b13, b14, b15, b16, b17⟩ := met_cells BM.out hO
      have hx := HGR.out gs[j] (List.getElem_mem hlt)
      have TS : Hid (gs.take (j + 1) = gs.take j ++ [gs[j]]) := Lib.hid (take_snoc _ _ hlt)
      have T1 := Lib.hid (bts_snoc u gs[j] (gs.take j) 0)
      have hT := btsEnd_rng hu1.1 hu1.2 (gs.take j) 0 (fun x hx => HGR.out x (List.mem_of_mem_take hx))
      have hln : (gs.take j).length = j := by rw [List.length_take]; omega
      rw [hln] at hT
      have e1 : 0 ≤ gs[j] * u := Int.mul_nonneg hx.1 hu1.1
      have e2 : gs[j] * u ≤ 64 * 1935360 := Int.mul_le_mul hx.2 hu1.2 hu1.1 (by omega)
      clear b1 hln
      generalize gs[j] = x at *
      generalize btsEnd u (gs.take j) 0 = t at *
      have k1 : IntKind.i64.wrap (x * u) = x * u := IntWalk.i64_in _ (by omega)
      have k2 : IntKind.i64.wrap (t + x * u) = t + x * u := IntWalk.i64_in _ (by omega)
      have j0 : (0 : Int) ≤ (j : Int) := by omega
      have j1 : (j : Int) < (gs.length : Int) := by omega
      clear e1 e2 hx hT
      obtain ⟨a1, a10, a11, a12, a13, a14, a15, a16, a17⟩ := met_cells BM.out (hO.alloc (.cells #[.int .i64 t] 3))
      go_wp2
      go_region_law (first
        | (refine step_append_lies _ (by rfl) _ _ _ (by rfl) w1.heap.size 3 i0 _ 1 8 Try.underlying45 hi0 hz0 hz1 hz2 rfl (by omega) v j _ (by rfl) ((hown.alloc _).drew) ⟨wr.heap.size, 0, none⟩ 1 1 [.int .i64 t] (by rfl) (by rfl) (World.news_of_block (cs := #[.int .i64 t]) (t := 3) (fr := (0, 0)) (heap_alloc_new wr _)) (by simp [Value.oneCell']) (by omega) (by simp only [maxLen]; omega) (by omega) (by simp; omega) (wr.heap.size + 1) (by simp) ?_; intro gg cap w5 hown1 hgrow hat hlt2; have OO5 := ((hO.alloc (.cells #[.int .i64 t] 3)).drew).grown hgrow fun q hq => .inr (hown.lt q hq).1; obtain ⟨b2, b20, b21, b22, b23, b24, b25, b26, b27⟩ := met_cells BM.out OO5)
        | (have _h := hgrow; go_wp2_with (go_at_call 47; refine (HU.out _).mono ?_; rintro e w6 ⟨rfl, o6⟩)))
      all_goals
        go_wp2
        go_roundw
        case rel =>
          refine ⟨j + 1, _, by omega, by go_num, rfl, ?_, ?_, OO5.trans o6⟩
          · rw [TS.out, T1.out.2]
          · rw [TS.out, T1.out.1, List.map_append, List.map_singleton]
            exact own_only hown1 o6 (by simp)
        case measure => simp [intOf]; omega
    · obtain rfl : j = gs.length := by omega
      rw [List.take_length] at hown
      obtain ⟨A, c, rfl, hl', hat⟩ := own_ints hown
      rw [bts_len] at *
      have hsz1 := O1.out.size
      go_wp2
      go_ret
      refine ⟨A, ⟨c, rfl⟩, fun i hi => ?_, O1.out.trans hO⟩
      obtain ⟨D, hA, hB, hD, hc⟩ := hat i hi
      exact ⟨D, hA, by omega, hc⟩
end Go.Proofs.Ytglkpoiajebleaa
