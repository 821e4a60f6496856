/- DERIVED. Contracts of package beam: place. -/
import Derived.Test.YtglkpoiajebleaaAt
namespace Go.Proofs.Ytglkpoiajebleaa
open Go.RowKit

/-- What place answers. -/
def plc (m : Met) (gs : List Int) (t : Int) : Int × Int × Int := (t / m.len, (atTo (bts m.un gs 0) (t % m.len) gs.length).1, (atTo (bts m.un gs 0) (t % m.len) gs.length).2)

set_option maxRecDepth 20000 in
set_option maxHeartbeats 4000000 in
theorem place_any (m : Met) (hc : m.chk = 0) (gs : List Int) (hG : GrpC m gs) (hl : gs.length ≤ 64) (hg : ∀ x ∈ gs, 0 ≤ x ∧ x ≤ 64) (t : Int) (h1 : 0 ≤ t) (h2 : t ≤ 4398046511104) (w : World) :
    Calls Try.prog 25 #[metV m, .int .i64 t] w fun e w' =>
      e = .returned (.tuple #[.int .i64 (plc m gs t).1, .int .i64 (plc m gs t).2.1, .int .i64 (plc m gs t).2.2]) ∧ Only [] w w' := by
  have hk := Met.ok_of hc
  have hr := un_rng hk.u1 hk.u2
  have hlr := len_rng hk.c1 hk.c2 hr.1 hr.2
  have HL := Lib.hid (Length_any m hc)
  have e1 : plc m gs t = (t / m.len, (atTo (bts m.un gs 0) (t % m.len) gs.length).1, (atTo (bts m.un gs 0) (t % m.len) gs.length).2) := rfl
  have hL1 : 30240 ≤ m.len ∧ m.len ≤ 123863040 := hlr
  have q0 : 0 ≤ t % m.len := Int.emod_nonneg _ (by omega)
  have q1 : t % m.len < m.len := Int.emod_lt_of_pos _ (by omega)
  have HA := Lib.hid (At_any m hc gs hG hl hg (t % m.len) q0 (by omega))
  rw [Int.emod_emod_of_dvd _ (Int.dvd_refl _)] at HA
  rw [e1]
  dsimp only
  obtain ⟨p, hp⟩ : ∃ p, atTo (bts m.un gs 0) (t % m.len) gs.length = p := ⟨_, rfl⟩
  rw [hp] at HA ⊢
  obtain ⟨p1, p2⟩ := p
  dsimp only at HA ⊢
  have d0 : 0 ≤ t / m.len := Int.ediv_nonneg h1 (by omega)
  have d1 : t / m.len ≤ t := Int.ediv_le_self _ h1
  have BB := Lib.hid (Blk.new w 36 (metL m))
  generalize m.len = L at *
  clear hk hr hlr hc hG hg hl e1 hp
  have q2 : ¬ L = 0 := by omega
  have q3 : Int.tmod t L = t % L := Int.tmod_eq_emod_of_nonneg h1
  have q4 : Int.tdiv t L = t / L := Int.tdiv_eq_ediv_of_nonneg h1
  obtain ⟨r, hrr⟩ : ∃ r, t % L = r := ⟨_, rfl⟩
  rw [hrr] at q0 q1 q3 HA
  obtain ⟨d, hdd⟩ : ∃ d, t / L = d := ⟨_, rfl⟩
  rw [hdd] at q4 d0 d1 ⊢
  have k1 : IntKind.i64.wrap d = d := IntWalk.i64_in _ (by omega)
  go_enter Try.func25, Try.ntmps25
  go_wp2_with (go_at_call 38; refine (HL.out _).mono ?_; rintro e w1 ⟨rfl, o1⟩; obtain ⟨b1, -⟩ := met_cells BB.out o1; obtain ⟨n0, n1, n2, n3, n4, n5, n6, n7⟩ := met_near b1)
  refine wp_near [] (by kernel_rfl) (by kernel_rfl) ?_
  repeat (go_big_quiet_step ((go_at_call 39; with_reducible exact near_call _ (HA.out _))))
  refine wpQuiet_nil ?_
  intro i
  obtain ⟨wq, pq⟩ := i
  dsimp only
  have HQ := Lib.hid ((((Only.refl [] w).alloc (metBox m)).trans o1).trans pq)
  clear n0 n1 n2 n3 n4 n5 n6 n7 b1 o1 pq
  go_wp2
  go_ret3
  exact ⟨rfl, HQ.out⟩
end Go.Proofs.Ytglkpoiajebleaa
