/- DERIVED. The statements of chapter 26: groups of the model. -/
import Derived.Test.YtglkpoiajebleaaBea
namespace Go.Proofs.Ytglkpoiajebleaa
open Go.RowKit

/-- The groups of the model. -/
def groupsM (m : Met) (gs : List Int) (off : Int) (l : List Nt) : List (Nat × Nat) := grpF (fun i => joinM m gs off (ntAt l i) (ntAt l (i + 1))) l.length l.length 0
theorem allE_zero {m : Met} {off : Int} {l : List Nt} (hb : allE m off l = 0) : m.chk = 0 ∧ (0 ≤ off ∧ off ≤ 4398046511104) ∧ ntE none l = 0 ∧ ∀ x ∈ l, off + x.t ≤ 4398046511104 := by
  unfold allE at hb
  by_cases h0 : m.chk = 0
  · rw [if_neg (by simpa using h0)] at hb
    by_cases h1 : 0 ≤ off ∧ off ≤ 4398046511104
    · rw [if_neg (by simpa using h1)] at hb
      by_cases h2 : ntE none l = 0
      · rw [if_neg (by simpa using h2)] at hb
        refine ⟨h0, h1, h2, fun x hx => ?_⟩
        unfold lateE at hb
        by_cases h3 : 4398046511104 < off + x.t
        · rw [if_pos ⟨x, hx, h3⟩] at hb; omega
        · omega
      · rw [if_pos h2] at hb; exact absurd hb h2
    · rw [if_pos h1] at hb; omega
  · rw [if_pos h0] at hb; exact absurd hb h0

set_option maxRecDepth 20000 in
set_option maxHeartbeats 8000000 in
theorem mgroups_any {w : World} {A : Option Addr} {l : List Nt} (m : Met) (gs : List Int) (hG : GrpC m gs) (hgl : gs.length ≤ 64) (hg : ∀ x ∈ gs, 0 ≤ x ∧ x ≤ 64) (off : Int) (c : Nat) (h : NotesAt w A l) (hl : l.length ≤ 128) (hb : allE m off l = 0) :
    Calls Try.prog 13 #[metV m, .int .i64 off, .slice A l.length c] w fun e w' => ∃ v, e = .returned v ∧ w'.ownsRow w.heap.size 40 2 v (groupsM m gs off l).length (gCells (groupsM m gs off l)) ∧ Only [] w w' := by
  obtain ⟨i0, hi0, hz0, hz1, hz2⟩ := info_parts group_info
  have H := Lib.hid h
  obtain ⟨hck, hof, hnt1, hlt1⟩ := allE_zero hb
  have HOK := Lib.hid (ntE_ok l none hnt1)
  have HLT := Lib.hid hlt1
  have OA := Lib.hid ((Only.refl [] w).alloc (metBox m))
  have BM := Lib.hid (Blk.new w 36 (metL m))
  have HJ := Lib.hid fun (k : Nat) (hk : k + 1 < l.length) (w2 : World) (o : Only [] w w2) => mjoined_any c (h.only o) hl m hck gs hG hgl hg off k hk (by rw [show ntAt l k = l[k] by simp [ntAt, show k < l.length by omega]]; exact ntE_ok l none hnt1 _ (List.getElem_mem _)) (by rw [show ntAt l (k + 1) = l[k + 1] by simp [ntAt, hk]]; exact ntE_ok l none hnt1 _ (List.getElem_mem _)) hof.1 (by rw [show ntAt l k = l[k] by simp [ntAt, show k < l.length by omega]]; exact hlt1 _ (List.getElem_mem _)) (by rw [show ntAt l (k + 1) = l[k + 1] by simp [ntAt, hk]]; exact hlt1 _ (List.getElem_mem _))
  clear h hb hnt1 hlt1 hG hgl hg hck
  obtain ⟨J, hJ⟩ : ∃ J, (fun a b => joinM m gs off a b) = J := ⟨_, rfl⟩
  have hJ2 : ∀ a b, joinM m gs off a b = J a b := fun a b => by rw [← hJ]
  simp only [hJ2, groupsM] at HJ ⊢
  obtain ⟨R, hR⟩ : ∃ R, grpF (fun i => J (ntAt l i) (ntAt l (i + 1))) l.length l.length 0 = R := ⟨_, rfl⟩
  rw [hR]
  have HR := Lib.hid hR
  clear hJ hJ2 hR
  go_enter Try.func13, Try.ntmps13
  go_wp2_with fail
  obtain ⟨w1, hw1⟩ : ∃ w1, w.alloc (metBox m) = w1 := ⟨_, rfl⟩
  rw [hw1] at OA BM ⊢
  have O1 := Lib.hid OA.out
  have BM1 := Lib.hid BM.out
  have hsz := O1.out.size
  clear hw1 OA BM
  go_loopw [7, 8] (fun o f wr => ∃ (i : Nat) (pre : List (Nat × Nat)) (v : Value), i ≤ l.length ∧ f = .int .i64 i ∧ v = o ∧ Hid (pre.length ≤ i) ∧ Hid (pre ++ grpF (fun i => J (ntAt l i) (ntAt l (i + 1))) l.length l.length i = R) ∧ wr.ownsRow w1.heap.size 40 2 v pre.length (gCells pre) ∧ Only [] w1 wr) (fun _ f _ => l.length - (intOf f).toNat)
  case atStart => exact ⟨0, [], _, by omega, rfl, rfl, Lib.hid (by simp), Lib.hid (by rw [HR.out, List.nil_append]), World.ownsRow_nil _ _ _ _, Only.refl _ _⟩
  case round =>
    obtain ⟨i, pre, v, hi, rfl, rfl, HPL, HRi, hown, hO⟩ := hrel
    obtain ⟨V, rfl⟩ : ∃ V, V = wr := ⟨_, rfl⟩
    by_cases hlt : i < l.length
    · have HOW := Lib.hid hown
      have HO := Lib.hid hO
      have hKle := runK_le (fun i => J (ntAt l i) (ntAt l (i + 1))) l.length l.length i
      have HST := Lib.hid (grpF_step (fun i => J (ntAt l i) (ntAt l (i + 1))) l.length i hlt)
      obtain ⟨K, hK⟩ : ∃ K, runK (fun i => J (ntAt l i) (ntAt l (i + 1))) l.length l.length i = K := ⟨_, rfl⟩
      rw [hK] at hKle HST
      have HK := Lib.hid hK
      have HL := Lib.hid hlt
      have hi1 := hKle.1
      have hK1 := hKle.2 hlt
      clear hown hO hKle hK
      go_wp2_with fail
      go_loopw [9] (fun k wr2 => ∃ k' : Nat, i ≤ k' ∧ k' < l.length ∧ k = .int .i64 k' ∧ Hid (runK (fun i => J (ntAt l i) (ntAt l (i + 1))) l.length l.length k' = K) ∧ Only [] V wr2) (fun k _ => l.length - (intOf k).toNat)
      case atStart => exact ⟨i, by omega, HL.out, rfl, HK, Only.refl _ _⟩
      case round =>
        obtain ⟨k, hk1, hk2, rfl, HKk, hO2⟩ := hrel
        have HO2 := Lib.hid hO2
        by_cases hkn : k + 1 < l.length
        · have hoo : Only [] w V := O1.out.trans HO.out
          have HJJ := Lib.hid fun (w2 : World) (o : Only [] V w2) => HJ.out k hkn w2 (hoo.trans o)
          obtain ⟨jb, hjb⟩ : ∃ jb, J (ntAt l k) (ntAt l (k + 1)) = jb := ⟨_, rfl⟩
          rw [hjb] at HJJ
          have HJB := Lib.hid hjb
          have k0 : (0 : Int) ≤ (k : Int) := by omega
          have k1 : (k : Int) < (l.length : Int) := by omega
          have k2 : (k : Int) + 1 < (l.length : Int) := by omega
          have k3 : (0 : Int) ≤ (k : Int) + 1 := by omega
          have HK2 := Lib.hid hk2
          clear hjb hoo
          obtain ⟨-, m0, m1, m2, m3, m4, m5, m6, m7⟩ := met_cells BM1.out (HO.out.trans HO2.out)
          clear hk2
          cases jb
          · have EK := Lib.hid (show k = K by
              rw [← HKk.out, runK_end _ _ _ (by omega) (by rw [HJB.out]; simp)])
            have HS2 := Lib.hid (HST.out)
            have hpl := HPL.out
            by_cases hik : i < k
            · go_wp2_with (first
                | (go_at_call 26; refine (HJJ.out _ HO2.out).mono ?_; rintro e WQ ⟨rfl, pq⟩; have O2 := Lib.hid (HO2.out.trans pq); have OW := Lib.hid (HO.out.trans O2.out); have hownW := Lib.hid (own_only HOW.out O2.out (by simp)); have hsw := OW.out.size)
                | (at_builtin; refine wpList_append_lies _ rfl _ _ _ rfl w1.heap.size 40 i0 _ 2 16 Try.underlying30 hi0 hz0 hz1 hz2 rfl (by omega) v pre.length (gCells pre) rfl (hownW.out.alloc _) ⟨WQ.heap.size, 0, none⟩ 1 1 [.int .i64 i, .int .i64 k] rfl rfl (World.news_of_block (cs := #[.int .i64 i, .int .i64 k]) (t := 40) (fr := (0, 0)) (heap_alloc_new WQ _)) (by simp [Value.oneCell']) (by omega) (by simp only [maxLen]; omega) (by omega) (by simp; omega) _ rfl ?_; intro gg cap w5 hown5 hgrow hat hlt5))
              go_roundw
              case rel =>
                refine ⟨k + 1, pre ++ [(i, k)], _, by have := HK2.out; omega, by go_num, rfl, Lib.hid (by simp; omega), Lib.hid ?_, ?_, (OW.out.alloc _).grown hgrow fun q hq => .inr (hownW.out.lt q hq).1⟩
                · rw [← HRi.out, HS2.out, ← EK.out, if_pos hik, List.append_assoc]
                · rw [gCells_snoc, List.length_append]; exact hown5
              case measure => have := HL.out; simp [intOf]; omega
            · obtain rfl : k = i := by omega
              have hik2 : ¬ k < k := by omega
              go_wp2_with (go_at_call 26; refine (HJJ.out _ HO2.out).mono ?_; rintro e WQ ⟨rfl, pq⟩; have O2 := Lib.hid (HO2.out.trans pq); have OW := Lib.hid (HO.out.trans O2.out); have hownW := Lib.hid (own_only HOW.out O2.out (by simp)); have hsw := OW.out.size)
              go_roundw
              case rel =>
                refine ⟨k + 1, pre, _, by have := HK2.out; omega, by go_num, rfl, Lib.hid (by omega), Lib.hid ?_, hownW.out, OW.out⟩
                rw [← HRi.out, HS2.out, ← EK.out, if_neg hik, List.nil_append]
              case measure => have := HL.out; simp [intOf]; omega
          · go_wp2_with (go_at_call 26; refine (HJJ.out _ HO2.out).mono ?_; rintro e WQ ⟨rfl, pq⟩; have O2 := Lib.hid (HO2.out.trans pq); have OW := Lib.hid (HO.out.trans O2.out); have hownW := Lib.hid (own_only HOW.out O2.out (by simp)); have hsw := OW.out.size)
            go_roundw
            case rel =>
              refine ⟨k + 1, by omega, by omega, by go_num, Lib.hid ?_, O2.out⟩
              rw [← HKk.out]
              exact (runK_step _ _ _ hkn (by rw [HJB.out])).symm
            case measure => have := HK2.out; simp [intOf]; omega
        · have k3 : ¬ (k : Int) + 1 < (l.length : Int) := by omega
          have HK2 := Lib.hid hk2
          have EK := Lib.hid (show k = K by
            rw [← HKk.out, runK_end _ _ _ (by omega) (by omega)])
          have OW := Lib.hid (HO.out.trans HO2.out)
          have hownW := Lib.hid (own_only HOW.out HO2.out (by simp))
          have hsw := OW.out.size
          clear hO2
          have HS2 := Lib.hid (HST.out)
          have hpl := HPL.out
          by_cases hik : i < k
          · go_wp2_with (at_builtin; refine wpList_append_lies _ rfl _ _ _ rfl w1.heap.size 40 i0 _ 2 16 Try.underlying30 hi0 hz0 hz1 hz2 rfl (by omega) v pre.length (gCells pre) rfl (hownW.out.alloc _) ⟨wr.heap.size, 0, none⟩ 1 1 [.int .i64 i, .int .i64 k] rfl rfl (World.news_of_block (cs := #[.int .i64 i, .int .i64 k]) (t := 40) (fr := (0, 0)) (heap_alloc_new wr _)) (by simp [Value.oneCell']) (by omega) (by simp only [maxLen]; omega) (by omega) (by simp; omega) _ rfl ?_; intro gg cap w5 hown5 hgrow hat hlt5)
            go_roundw
            case rel =>
              refine ⟨k + 1, pre ++ [(i, k)], _, by have := HK2.out; omega, by go_num, rfl, Lib.hid (by simp; omega), Lib.hid ?_, ?_, (OW.out.alloc _).grown hgrow fun q hq => .inr (hownW.out.lt q hq).1⟩
              · rw [← HRi.out, HS2.out, ← EK.out, if_pos hik, List.append_assoc]
              · rw [gCells_snoc, List.length_append]; exact hown5
            case measure => have := HL.out; simp [intOf]; omega
          · obtain rfl : k = i := by omega
            have hik2 : ¬ k < k := by omega
            go_wp2_with fail
            go_roundw
            case rel =>
              refine ⟨k + 1, pre, _, by have := HK2.out; omega, by go_num, rfl, Lib.hid (by omega), Lib.hid ?_, hownW.out, OW.out⟩
              rw [← HRi.out, HS2.out, ← EK.out, if_neg hik, List.nil_append]
            case measure => have := HL.out; simp [intOf]; omega
    · obtain rfl : i = l.length := by omega
      have HRi2 := HRi.out
      rw [grpF_end _ _ _ (Nat.le_refl _), List.append_nil] at HRi2
      subst HRi2
      have HOW := Lib.hid hown
      have HO := Lib.hid hO
      have i2 : ¬ (l.length : Int) < (l.length : Int) := by omega
      clear hown hO HRi
      go_wp2_with fail
      go_ret
      refine ⟨_, rfl, ⟨HOW.out.1, ?_⟩, O1.out.trans HO.out⟩
      rcases HOW.out.2 with h | ⟨g, cap, cur, rfl, hb, hg, hr⟩
      · exact .inl h
      · exact .inr ⟨g, cap, cur, rfl, by omega, hg, hr⟩
end Go.Proofs.Ytglkpoiajebleaa
