/- DERIVED. slices.Repeat of one element; make of ints. -/
import Derived.Test.YtglkpoiajebleaaMem
import Derived.Test.YtglkpoiajebleaaShelf
import Derived.Laws.CopyOwn
import Derived.Deep.RegionLaw
namespace Go.Proofs.Ytglkpoiajebleaa
open Go.RowKit

/-- A row of k times v and then zeros. -/
def rep (v : Int) (k n : Nat) : List Int := List.replicate k v ++ List.replicate (n - k) 0
def repV (v : Int) (k n : Nat) : List Value := (rep v k n).map (.int .i64)
theorem rep_len (v : Int) (k n : Nat) (h : k ≤ n) : (rep v k n).length = n := by simp [rep]; omega
theorem rep_full (v : Int) (n : Nat) : rep v n n = List.replicate n v := by simp [rep]
theorem repV_len (v : Int) (k n : Nat) (h : k ≤ n) : (repV v k n).length = n := by simp [repV, rep_len v k n h]
theorem repV_splice (v : Int) (k m n : Nat) (h : k + m ≤ n) : splice (repV v k n) k (List.replicate m (.int .i64 v)) = repV v (k + m) n := by
  simp only [splice, repV, rep, List.map_append, List.map_replicate, List.length_replicate]
  rw [List.take_append_of_le_length (by simp), List.take_of_length_le (by simp), List.drop_append, List.drop_eq_nil_of_le (by simp)]
  simp only [List.length_replicate, List.nil_append, List.drop_replicate]
  rw [← List.append_assoc, List.replicate_append_replicate]
  congr 2
  omega
theorem repV_get (v : Int) (k n j : Nat) (h : j < k) : (repV v k n)[j]? = some (.int .i64 v) := by
  simp [repV, rep, List.getElem?_append, h]

theorem int_info : (Try.prog.info? 3).map (fun i => (i.zero, i.size, i.bytes)) = some (some (.int .i64 0), 1, 8) := by kernel_rfl
theorem int_size : (Try.prog.info? 3).map (·.size) = some 1 := by kernel_rfl

theorem make_ints (n : Nat) (hn : n ≤ 65536) (W : World) : (Instr.makeSlice 45 (.int .i64 (n : Int)) (.int .i64 (n : Int))).run Try.prog W = .ok (.slice (some ⟨W.heap.size, 0, none⟩) n n) (W.alloc (.cells (repV 0 0 n).toArray 3)) := by
  obtain ⟨i, hi, hz, hs, hb⟩ := info_parts int_info
  have h := run_make (P := Try.prog) W 45 3 i _ Try.underlying45 hi hz .i64 .i64 n n (by omega) (by omega) (by rw [hb]; omega) (by omega)
  simp only [Int.toNat_natCast, hs, Nat.mul_one] at h
  rw [h]
  have e : madeCells (Value.int .i64 0).cells n = (repV 0 0 n).toArray := by
    apply Array.ext
    · simp [madeCells, repV, rep]
    · intro j h1 h2
      simp [madeCells, repV, rep, Value.cells, Nat.mod_one]
  rw [e]

theorem mul_one_any (n : Nat) (h2 : n ≤ 65536) (w : World) :
    Calls Try.prog 58 #[.int .u64 1, .int .u64 (n : Int)] w fun e w' => e = .returned (.tuple #[.int .u64 0, .int .u64 (n : Int)]) ∧ w = w' := by
  refine (Try.bits_Mul 1 n (by omega) (by omega) w).mono ?_
  rintro e w' ⟨rfl, rfl⟩
  refine ⟨?_, rfl⟩
  rw [show 1 * n / 18446744073709551616 = 0 by omega, show 1 * n % 18446744073709551616 = n by omega]
  rfl

theorem cell_rep (v : Int) (m : Nat) : ∀ u ∈ List.replicate m (Value.int .i64 v), u.oneCell' = true := by
  intro u hu
  obtain rfl := (List.mem_replicate.1 hu).2
  rfl

/-- A copy of m times v behind k times v. -/
theorem copy_rep {W : World} {G : Nat} {v u : Int} {k n : Nat} (hk : k ≤ n) (hg : Blk W G 3 (repV u k n)) (hu : ∀ j, j < k → u = v) (ad : Addr) (dC sL sC m : Nat) (hm : m = Nat.min sL (n - k))
    (hsrc : ∀ j, j < m → W.cell? (ad.add j) = some (.int .i64 v)) :
    ∃ W', (Builtin.copy_ #[45, 45] 3 #[.slice (some ⟨G, k, none⟩) (n - k) dC, .slice (some ad) sL sC]).run Try.prog W = .ok (.int .i64 (m : Int)) W' ∧ Blk W' G 3 (repV v (k + m) n) ∧ Only [G] W W' := by
  have hmn : k + m ≤ n := by have h : m = min sL (n - k) := hm; omega
  have h := run_copy_row (P := Try.prog) W 45 45 3 3 G k (n - k) dC ad sL sC (repV u k n).toArray 3 (List.replicate m (.int .i64 v)) Try.underlying45 int_size hg
    (by rw [List.length_replicate]; exact hm) (by
      intro j x hj
      have hlt := (List.getElem?_eq_some_iff.1 hj).1
      simp only [List.length_replicate] at hlt
      rw [List.getElem?_replicate, if_pos hlt] at hj
      rw [← Option.some.inj hj]
      exact hsrc j hlt) (by simp [repV_len _ _ _ hk]; omega) (cell_rep v m)
  refine ⟨W.setRow G ((repV u k n).toArray.toList.take k ++ List.replicate m (Value.int .i64 v) ++ (repV u k n).toArray.toList.drop (k + (List.replicate m (Value.int .i64 v)).length)).toArray, ?_, ?_, ?_⟩
  · rw [h]; simp only [goInt, List.length_replicate]
  · have e := setRow_heap W G (repV u k n).toArray ((repV u k n).toArray.toList.take k ++ List.replicate m (Value.int .i64 v) ++ (repV u k n).toArray.toList.drop (k + (List.replicate m (Value.int .i64 v)).length)).toArray 3 (0, 0) hg
    have e2 := repV_splice v k m n hmn
    have e3 : repV u k n = repV v k n := by
      rcases Nat.eq_zero_or_pos k with h0 | h0
      · subst h0; simp [repV, rep]
      · rw [hu 0 h0]
    rw [e3] at e ⊢
    unfold Blk
    rw [← e2]
    simpa [splice] using e
  · exact ⟨rfl, rfl, rfl, by simp [World.setRow], fun i hi hn => setRow_other W G i _ (by simpa using hn)⟩

set_option maxRecDepth 20000 in
set_option maxHeartbeats 1000000 in
theorem repeat_any (a : Addr) (c : Nat) (v : Int) (n : Nat) (h1 : 1 ≤ n) (h2 : n ≤ 65536) (w : World) (hc : w.cell? a = some (.int .i64 v)) :
    Calls Try.prog 55 #[.slice (some a) 1 c, .int .i64 n] w
      fun e w' => ∃ g, e = .returned (.slice (some ⟨g, 0, none⟩) n n) ∧ w.heap.size ≤ g ∧ Blk w' g 3 ((List.replicate n v).map (.int .i64)) ∧ Only [] w w' := by
  obtain ⟨G, hG⟩ : ∃ G, w.heap.size = G := ⟨_, rfl⟩
  have hmk := make_ints n h2 w
  rw [hG] at hmk
  obtain ⟨W1, hW1⟩ : ∃ W1, w.alloc (.cells (repV 0 0 n).toArray 3) = W1 := ⟨_, rfl⟩
  have hnew : Blk W1 G 3 (repV 0 0 n) := by rw [← hW1, ← hG]; exact Blk.new w _ _
  have ho1 : Only [G] w W1 := by rw [← hW1]; exact (Only.refl _ _).alloc _
  rw [hW1] at hmk
  obtain ⟨W2, hcp, hb2, ho2⟩ := copy_rep (v := v) (k := 0) (Nat.zero_le n) hnew (fun j hj => absurd hj (by omega)) a n 1 c 1 (by show 1 = min 1 (n - 0); omega) (by
    intro j hj
    obtain rfl : j = 0 := by omega
    rw [Addr.add_zero', ← hW1, World.cell?_alloc_lt _ _ _ (World.block_lt_of_cell? _ _ hc)]
    exact hc)
  simp only [Nat.sub_zero, Nat.zero_add] at hcp hb2
  have ho2 := ho1.trans ho2
  have HG := Lib.hid hG
  have e1 : (0 : Int) ≤ (n : Int) := by omega
  clear hG hW1 hnew ho1 hc
  go_enter Try.func55, Try.ntmps55
  go_wp2_with fail
  refine (mul_one_any n h2 w).mono ?_
  rintro e w' ⟨rfl, rfl⟩
  have hn : (0 : Int) < (n : Int) := by omega
  go_wp2_with fail
  clear hmk hcp
  go_loopw [8] (fun i wr => ∃ k : Nat, 1 ≤ k ∧ k ≤ n ∧ i = .int .i64 k ∧ Blk wr G 3 (repV v k n) ∧ Only [G] w wr) (fun i _ => n - (intOf i).toNat)
  case atStart => exact ⟨1, Nat.le_refl _, h1, rfl, hb2, ho2⟩
  case round =>
    obtain ⟨k, hk1, hk2, rfl, hrow, ho⟩ := hrel
    clear hb2 ho2
    by_cases hlt : k < n
    · have e2 : (0 : Int) ≤ (k : Int) := by omega
      have e3 : (k : Int) ≤ (n : Int) := by omega
      have e4 : ((n : Int) - (k : Int)) = ((n - k : Nat) : Int) := by omega
      have hne : ¬ n = k := by omega
      obtain ⟨m, hm⟩ : ∃ m, m = Nat.min k (n - k) := ⟨_, rfl⟩
      have hm1 : 1 ≤ m := by have : m = min k (n - k) := hm; omega
      have hm2 : k + m ≤ n := by have : m = min k (n - k) := hm; omega
      obtain ⟨W3, hcp, hb3, ho3⟩ := copy_rep (v := v) hk2 hrow.drew (fun _ _ => rfl) ⟨G, 0, none⟩ (n - k) k n m hm (by
        intro j hj
        have : m = min k (n - k) := hm
        rw [Addr.add_lit]
        have := hrow.cell j
        rw [repV_get v k n j (by omega)] at this
        simpa using this)
      have ho3 := ho.drew.trans ho3
      clear hm ho hrow
      go_wp2_with fail
      go_region
      go_wp2
      go_roundw
      case rel => exact ⟨k + m, by omega, hm2, by go_num, hb3, ho3⟩
      case measure => simp [intOf]; omega
    · obtain rfl : k = n := by omega
      go_wp2
      go_ret
      refine ⟨G, rfl, by rw [HG.out]; exact Nat.le_refl _, ?_, ho.less (fun j hj hlt => ?_)⟩
      · rw [← rep_full]; exact hrow
      · simp at hj
        rw [HG.out] at hlt
        omega

end Go.Proofs.Ytglkpoiajebleaa
