/- DERIVED. Regions that draw their order: a quiet head in a class of worlds, then a tail in the order of the text. -/
import Derived.Test.YtglkpoiajebleaaMem
import Derived.StillTail
import Derived.Deep.Quiet
namespace Go.Proofs.Ytglkpoiajebleaa
open Go Go.RowKit

section
variable {P : Program} {ops : Array Oper} {md : Region.Mode} {C : World → Prop}

/-- Whatever order is picked for the head. -/
def wpAnyQL (P : Program) (md : Region.Mode) (ops : Array Oper) (C : World → Prop) (n : Nat) (L : Array Bool → Act → Prop) : Nat → Array Bool → Act → Prop
  | 0, listed, a => L listed a
  | f + 1, listed, a =>
    Region.ready md ops listed ≠ [] ∧ ∀ i ∈ Region.ready md ops listed, i < n ∧ qOp P ops C i (wpAnyQL P md ops C n L f (listed.setIfInBounds i true)) a

theorem wpAny_of_qhead {n g : Nat} {L : Array Bool → Act → Prop} {Q' : Exit → Act → World → Prop} (hL : ∀ listed a w, C w → L listed a → wpAny P md ops Q' g listed a w) :
    ∀ (f : Nat) (listed : Array Bool) (a : Act) (w : World), C w → wpAnyQL P md ops C n L f listed a → wpAny P md ops Q' (f + g) listed a w
  | 0, listed, a, w, hw, h => by rw [Nat.zero_add]; exact hL _ _ _ hw h
  | f + 1, listed, a, w, hw, h => by
    rw [show f + 1 + g = (f + g) + 1 by omega]
    exact ⟨fun h0 => absurd h0 h.1, fun i hi => wpOp_of_qOp hw (fun a' w' hw' h' => wpAny_of_qhead hL f _ a' w' hw' h') (h.2 i hi).2⟩

theorem wpAnyQL_first {n i : Nat} {oi : Oper} {v : Value} {L : Array Bool → Act → Prop} (hi : ops[i]? = some oi) (hsel : ∀ (j : Nat) (o : Oper) cs b, ops[j]? = some o → o.op ≠ .select cs b)
    (hs : Region.sinkB md ops n = true) (hc : Region.chainB md ops n = true) (hn : n < ops.size) (hin : i < n)
    (hdone : ∀ listed a, L listed a → ∀ j ∈ Region.ready md ops listed, n ≤ j) :
    ∀ (f : Nat) (listed : Array Bool) (a : Act), HeadInv md ops n listed →
      (∀ j oj, ops[j]? = some oj → j ≠ i → listed.getD j true = false → (∀ e ∈ oj.after, Region.binds md e = true → e.on ≠ i) → oi.apart ops oj = true) →
      i ∈ Region.ready md ops listed → YieldsIn P ops C oi v a →
      wpAnyQL P md ops C n L f (listed.setIfInBounds i true) (a.put oi.dst v) → wpAnyQL P md ops C n L (f + 1) listed a := by
  intro f
  induction f with
  | zero =>
    intro listed a inv _ hr hy H
    have hun := (mem_ready.1 hr).1
    refine ⟨fun h => (by rw [h] at hr; cases hr), fun j hj => ?_⟩
    have hjn : j < n := by
      rcases Nat.lt_or_ge j n with h | h
      · exact h
      · exact absurd hj (tail_waits hs hc hn inv _ i rfl hin hun j h)
    refine ⟨hjn, ?_⟩
    by_cases hji : j = i
    · subst hji; exact hy.qOp hi H
    · have := hdone _ _ H j (ready_mono hj hji)
      omega
  | succ f ih =>
    intro listed a inv hfree hr hy H
    have hun := (mem_ready.1 hr).1
    refine ⟨fun h => (by rw [h] at hr; cases hr), fun j hj => ?_⟩
    have hjn : j < n := by
      rcases Nat.lt_or_ge j n with h | h
      · exact h
      · exact absurd hj (tail_waits hs hc hn inv _ i rfl hin hun j h)
    refine ⟨hjn, ?_⟩
    by_cases hji : j = i
    · subst hji; exact hy.qOp hi H
    · have h1 := (H.2 j (ready_mono hj hji)).2
      obtain ⟨hjun, oj, hoj, hall⟩ := mem_ready.1 hj
      have hnot : ∀ e ∈ oj.after, Region.binds md e = true → e.on ≠ i := fun e he hb heq => by
        have h1 := hall e he hb
        rw [heq, getD_both hun] at h1
        cases h1
      have h2 := qOp_put hoj (hfree j oj hoj hji hjun hnot) (fun cs b => hsel i oi cs b hi) (fun cs b => hsel j oj cs b hoj) hy h1
      have hfree' : ∀ k ok, ops[k]? = some ok → k ≠ i → (listed.setIfInBounds j true).getD k true = false →
          (∀ e ∈ ok.after, Region.binds md e = true → e.on ≠ i) → oi.apart ops ok = true := fun k ok hk hki hun hno => by
        refine hfree k ok hk hki ?_ hno
        by_cases hjk : j = k
        · subst hjk; exact hjun
        · rw [getD_set_ne true hjk] at hun; exact hun
      refine qOp_mono (fun a' h3 => ih (listed.setIfInBounds j true) a' (inv.set hj hjn) hfree' (ready_mono hr (Ne.symm hji)) h3.1 ?_) h2
      rw [Array.setIfInBounds_comm _ _ hji]
      exact h3.2

theorem wpAnyQL_lex {n g : Nat} {Lq : Act → Prop} (hsel : Region.noSelect ops = true) (hs : Region.sinkB md ops n = true) (hc : Region.chainB md ops n = true) (hn : n < ops.size) :
    ∀ (l : List Oper) (k : Nat) (listed : Array Bool) (a : Act), (∀ j, j < l.length → l[j]? = ops[k + j]?) → k + l.length = n → HeadInv md ops n listed →
    Region.lexHead md ops g l.length k listed = true → wpQuiet P ops C Lq l a →
    wpAnyQL P md ops C n (fun listed' a' => Region.seqB md ops g n listed' = true ∧ Lq a') l.length listed a
  | [], k, listed, a, _, hk, _, hB, h => by
    have : k = n := by simpa using hk
    subst this
    exact ⟨by simpa [Region.lexHead] using hB, h⟩
  | o :: l, k, listed, a, hl, hk, inv, hB, h => by
    have h0 : ops[k]? = some o := by simpa using (hl 0 (by simp)).symm
    simp only [List.length_cons, Region.lexHead, Bool.and_eq_true] at hB
    obtain ⟨⟨hr, hf⟩, hB'⟩ := hB
    have hkn : k < n := by simp only [List.length_cons] at hk; omega
    have hr' : k ∈ Region.ready md ops listed := by simpa using hr
    have hst : qOp P ops C k (wpQuiet P ops C Lq l) a := by unfold qOp; simp only [h0]; exact h
    obtain ⟨v, hy, hK⟩ := yieldsIn_of_qOp h0 hst
    exact wpAnyQL_first h0 (Region.noSelect_spec hsel) hs hc hn hkn (fun listed' a' hL => seqB_ready hL.1) l.length listed a inv (Region.free_spec h0 hf) hr' hy
      (wpAnyQL_lex hsel hs hc hn l (k + 1) _ _ (fun j hj => by have := hl (j + 1) (by simp; omega); simpa [Nat.add_assoc, Nat.add_comm 1 j] using this) (by simp only [List.length_cons] at hk; omega) (inv.set hr' hkn) hB' hK)

/-- The head: quiet in the class C, in whatever order; the tail: as it is written, from whatever world of the class. -/
theorem wp_region_quiet_tail {id : Nat} {Q : Exit → Act → World → Prop} {a : Act} {w : World} {l : List Oper} (C : World → Prop) (n : Nat) (hm : P.follows .mixedOrders = true) (hB : Region.lexTailB .any l.toArray n = true)
    (hC : C w.drew) (h : wpQuiet P l.toArray C (fun a' => ∀ w', C w' → wpList P l.toArray Q (l.drop n) a' w') (l.take n) a) : (Code.region id l.toArray true).wp P Q a w := by
  simp only [Region.lexTailB, Bool.and_eq_true, decide_eq_true_eq] at hB
  obtain ⟨⟨⟨⟨hsel, hn⟩, hs⟩, hc⟩, hlex⟩ := hB
  have hn' : n < l.length := by simpa using hn
  have htl : (l.take n).length = n := by simp; omega
  have hdl : (l.drop n).length = l.toArray.size - n := by simp
  have inv0 : HeadInv .any l.toArray n (Array.replicate l.toArray.size false) :=
    ⟨by simp, fun j oj _ hl => (by rw [getD_replicate_false] at hl; cases hl), fun t _ ht => getD_in (by simpa using ht) (getD_replicate_false _ _)⟩
  have H := wpAnyQL_lex (C := C) (md := .any) (g := l.toArray.size - n) hsel hs hc hn (l.take n) 0 _ a (fun j hj => by
    have hj' : j < n := by rw [htl] at hj; exact hj
    simp [hj']) (by simpa using htl) inv0 (by rw [htl]; exact hlex) h
  refine wp_region_any hm ?_
  have := wpAny_of_qhead (Q' := Q) (g := l.toArray.size - n) (fun listed a' w' hw' hL => by
    have := wpAny_of_seq (md := .any) (Q' := Q) (l.drop n) n listed a' w' (fun j => by simp [List.getElem?_drop]) (by rw [hdl]; exact hL.1) (hL.2 w' hw')
    rwa [hdl] at this) _ _ _ _ hC H
  rw [htl, show n + (l.toArray.size - n) = l.toArray.size by omega] at this
  exact this

/-- A world in which, of the blocks of w, only those of S may have changed. -/
structure Near (S : List Nat) (w : World) where
  W : World
  only : Only S w W
instance (S : List Nat) (w : World) : Nonempty (Near S w) := ⟨⟨w, Only.refl S w⟩⟩
/-- The class: some draws. -/
theorem wp_tail_drew {id : Nat} {Q : Exit → Act → World → Prop} {a : Act} {w : World} {l : List Oper} (n : Nat) (hm : P.follows .mixedOrders = true) (hB : Region.lexTailB .any l.toArray n = true)
    (h : wpQuiet P l.toArray (fun w' => ∃ n, w' = w.drewN n) (fun a' => ∀ q, wpList P l.toArray Q (l.drop n) a' (w.drewN q)) (l.take n) a) : (Code.region id l.toArray true).wp P Q a w :=
  wp_region_quiet_tail (fun w' => ∃ n, w' = w.drewN n) n hm hB ⟨1, rfl⟩ (by
    have e : (fun a' => ∀ w', (∃ n, w' = w.drewN n) → wpList P l.toArray Q (l.drop n) a' w') = (fun a' => ∀ q, wpList P l.toArray Q (l.drop n) a' (w.drewN q)) := by
      funext a'
      exact propext ⟨fun h q => h _ ⟨q, rfl⟩, fun h w' ⟨q, e⟩ => by subst e; exact h q⟩
    rw [e]
    exact h)
/-- The class: worlds near the one at hand. All is quiet. -/
theorem wp_near {id : Nat} {Q : Exit → Act → World → Prop} {a : Act} {w : World} {l : List Oper} (S : List Nat) (hm : P.follows .mixedOrders = true) (hB : Region.lexB .any l.toArray = true)
    (h : wpQuiet P l.toArray (fun w' => ∃ i : Near S w, w' = i.W) (fun a' => ∀ i : Near S w, Q .normal a' i.W) l a) : (Code.region id l.toArray true).wp P Q a w :=
  wp_region_quiet (C := fun w' => ∃ i : Near S w, w' = i.W) hm hB ⟨⟨w.drew, (Only.refl S w).drew⟩, rfl⟩ (by
    have e : (fun a' => ∀ w', (∃ i : Near S w, w' = i.W) → Q .normal a' w') = (fun a' => ∀ i : Near S w, Q .normal a' i.W) := by
      funext a'
      exact propext ⟨fun h q => h _ ⟨q, rfl⟩, fun h w' ⟨q, e⟩ => by subst e; exact h q⟩
    rw [e]
    simpa using h)
/-- The same with a tail. -/
theorem wp_tail_near {id : Nat} {Q : Exit → Act → World → Prop} {a : Act} {w : World} {l : List Oper} (S : List Nat) (n : Nat) (hm : P.follows .mixedOrders = true) (hB : Region.lexTailB .any l.toArray n = true)
    (h : wpQuiet P l.toArray (fun w' => ∃ i : Near S w, w' = i.W) (fun a' => ∀ i : Near S w, wpList P l.toArray Q (l.drop n) a' i.W) (l.take n) a) : (Code.region id l.toArray true).wp P Q a w :=
  wp_region_quiet_tail (fun w' => ∃ i : Near S w, w' = i.W) n hm hB ⟨⟨w.drew, (Only.refl S w).drew⟩, rfl⟩ (by
    have e : (fun a' => ∀ w', (∃ i : Near S w, w' = i.W) → wpList P l.toArray Q (l.drop n) a' w') = (fun a' => ∀ i : Near S w, wpList P l.toArray Q (l.drop n) a' i.W) := by
      funext a'
      exact propext ⟨fun h q => h _ ⟨q, rfl⟩, fun h w' ⟨q, e⟩ => by subst e; exact h q⟩
    rw [e]
    exact h)
/-! Late stores: operations that look at no world may come up beside the tail. -/
theorem qOp_put2 {j : Nat} {oi oj : Oper} {v : Value} {Z : Prop} (hj : ops[j]? = some oj) (hap : oi.apart ops oj = true)
    (hsi : ∀ cs b, oi.op ≠ .select cs b) (hsj : ∀ cs b, oj.op ≠ .select cs b) {K : Act → Prop} {a : Act}
    (hy : YieldsIn P ops C oi v a) (hz : Z → Yields P ops oi v a) (h : qOp P ops C j K (a.put oi.dst v)) :
    qOp P ops C j (fun a' => YieldsIn P ops C oi v a' ∧ (Z → Yields P ops oi v a') ∧ K (a'.put oi.dst v)) a := by
  obtain ⟨h1, h2, h3⟩ := Oper.apart_spec hap
  have keep : ∀ (a : Act), YieldsIn P ops C oi v a → ∀ u, YieldsIn P ops C oi v (a.put oj.dst u) := fun a hy u =>
    hy.of_same (execOp_put oi hsi a oj.dst u h3) (wanted_put oi a oj.dst u h3)
  have keep2 : ∀ (a : Act), (Z → Yields P ops oi v a) → ∀ u, Z → Yields P ops oi v (a.put oj.dst u) := fun a hy u z =>
    (hy z).of_same (execOp_put oi hsi a oj.dst u h3) (wanted_put oi a oj.dst u h3)
  unfold qOp at *
  simp only [hj] at *
  rw [wanted_put oj a oi.dst v h1] at h
  split
  · rename_i hw
    simp only [hw, if_true] at h
    obtain ⟨u, hu, hn⟩ := h
    refine ⟨u, fun w hw' => ?_, keep a hy u, keep2 a hz u, by rw [← Act.put_comm a v u h2]; exact hn⟩
    have := hu w hw'
    unfold Oper.quietAt at *
    rwa [execOp_put oj hsj a oi.dst v h1] at this
  · rename_i hw
    simp only [hw] at h
    exact ⟨keep a hy _, keep2 a hz _, by rw [← Act.put_comm a v undef h2]; exact h⟩

/-- Whatever order is picked: operations ahead of n are quiet; from n on they run for real. -/
def wpAnyM (P : Program) (md : Region.Mode) (ops : Array Oper) (C : World → Prop) (Q : Exit → Act → World → Prop) (n : Nat) : Nat → Array Bool → Act → Prop
  | 0, listed, a => Region.ready md ops listed = [] ∧ ∀ w, C w → Q .normal a w
  | f + 1, listed, a =>
    (Region.ready md ops listed = [] → ∀ w, C w → Q .normal a w) ∧
    ∀ i ∈ Region.ready md ops listed, (i < n ∧ qOp P ops C i (wpAnyM P md ops C Q n f (listed.setIfInBounds i true)) a) ∨ (n ≤ i ∧ ∀ w, C w → wpOp P ops Q i (wpAny P md ops Q f (listed.setIfInBounds i true)) a w)

theorem wpAny_of_mix {n : Nat} {Q : Exit → Act → World → Prop} : ∀ (f : Nat) (listed : Array Bool) (a : Act) (w : World), C w → wpAnyM P md ops C Q n f listed a → wpAny P md ops Q f listed a w
  | 0, _, _, w, hw, h => ⟨h.1, h.2 w hw⟩
  | f + 1, _, _, w, hw, h => ⟨fun h0 => h.1 h0 w hw, fun i hi => by
    rcases h.2 i hi with ⟨_, h1⟩ | ⟨_, h1⟩
    · exact wpOp_of_qOp hw (fun a' w' hw' h' => wpAny_of_mix f _ a' w' hw' h') h1
    · exact h1 w hw⟩

/-- An operation ahead of n waits for whoever the first of the tail waits for, unless it stands in B. -/
def sinkM (md : Region.Mode) (ops : Array Oper) (n : Nat) (B : List Nat) : Bool :=
  (List.range n).all fun i => B.contains i || (List.range (n + 1)).any fun j => decide (i < j) && !B.contains j && Region.waitsFor md ops j i

theorem tail_waitsM {n : Nat} {B : List Nat} {listed : Array Bool} (hs : sinkM md ops n B = true) (hc : Region.chainB md ops n = true) (hn : n < ops.size) (inv : HeadInv md ops n listed) :
    ∀ (d i : Nat), n - i = d → i < n → B.contains i = false → listed.getD i true = false → ∀ t, n ≤ t → t ∉ Region.ready md ops listed := by
  intro d
  induction d using Nat.strongRecOn with
  | _ d ih =>
    intro i hd hi hB hun t ht hr
    obtain ⟨_, ot, hot, hall⟩ := mem_ready.1 hr
    have htlt : t < ops.size := (Array.getElem?_eq_some_iff.1 hot).1
    by_cases htn : t = n
    · subst htn
      have h1 := List.all_eq_true.1 hs i (List.mem_range.2 hi)
      rw [hB, Bool.false_or] at h1
      obtain ⟨j, hj, hj2⟩ := List.any_eq_true.1 h1
      simp only [Bool.and_eq_true, decide_eq_true_eq, Bool.not_eq_true'] at hj2
      obtain ⟨oj, hoj, e, he, hb, hon⟩ := Region.waitsFor_spec hj2.2
      have hjle : j ≤ t := by have := List.mem_range.1 hj; omega
      by_cases hjt : j = t
      · subst hjt
        have : oj = ot := Option.some.inj (hoj.symm.trans hot)
        subst this
        have h2 := hall e he hb
        rw [hon, getD_both hun] at h2
        cases h2
      · cases hl : listed.getD j false with
        | true =>
          have h2 := inv.closed j oj hoj hl e he hb
          rw [hon, getD_both hun] at h2
          cases h2
        | false =>
          have hjs : j < listed.size := by rw [inv.size]; omega
          exact ih (t - j) (by omega) j rfl (by omega) hj2.1.2 (getD_in hjs hl) t (Nat.le_refl _) hr
    · have h1 := List.all_eq_true.1 hc t (List.mem_range.2 htlt)
      simp only [Bool.or_eq_true, decide_eq_true_eq] at h1
      rcases h1 with h1 | h1
      · omega
      · obtain ⟨o', ho', e, he, hb, hon⟩ := Region.waitsFor_spec h1
        have : o' = ot := Option.some.inj (ho'.symm.trans hot)
        subst this
        have h2 := hall e he hb
        rw [hon, getD_both (inv.tail (t - 1) (by omega) (by omega))] at h2
        cases h2

theorem wpAnyM_first {n i : Nat} {B : List Nat} {oi : Oper} {v : Value} {Q : Exit → Act → World → Prop} (hi : ops[i]? = some oi) (hsel : ∀ (j : Nat) (o : Oper) cs b, ops[j]? = some o → o.op ≠ .select cs b)
    (hs : sinkM md ops n B = true) (hc : Region.chainB md ops n = true) (hn : n < ops.size) (hin : i < n)
    (hQ : ∀ c a w, Q (.panic c) (a.put oi.dst v) w → Q (.panic c) a w) :
    ∀ (f : Nat) (listed : Array Bool) (a : Act), HeadInv md ops n listed →
      (∀ j oj, ops[j]? = some oj → j ≠ i → listed.getD j true = false → (∀ e ∈ oj.after, Region.binds md e = true → e.on ≠ i) → oi.apart ops oj = true) →
      i ∈ Region.ready md ops listed → YieldsIn P ops C oi v a → (B.contains i = true → Yields P ops oi v a) →
      wpAnyM P md ops C Q n f (listed.setIfInBounds i true) (a.put oi.dst v) → wpAnyM P md ops C Q n (f + 1) listed a := by
  intro f
  induction f with
  | zero =>
    intro listed a inv _ hr hy _ H
    refine ⟨fun h => (by rw [h] at hr; cases hr), fun j hj => ?_⟩
    by_cases hji : j = i
    · subst hji; exact .inl ⟨hin, hy.qOp hi H⟩
    · have := ready_mono hj hji
      rw [H.1] at this
      cases this
  | succ f ih =>
    intro listed a inv hfree hr hy hz H
    have hun := (mem_ready.1 hr).1
    refine ⟨fun h => (by rw [h] at hr; cases hr), fun j hj => ?_⟩
    by_cases hji : j = i
    · subst hji; exact .inl ⟨hin, hy.qOp hi H⟩
    · obtain ⟨hjun, oj, hoj, hall⟩ := mem_ready.1 hj
      have hnot : ∀ e ∈ oj.after, Region.binds md e = true → e.on ≠ i := fun e he hb heq => by
        have h1 := hall e he hb
        rw [heq, getD_both hun] at h1
        cases h1
      have hfree' : ∀ k ok, ops[k]? = some ok → k ≠ i → (listed.setIfInBounds j true).getD k true = false →
          (∀ e ∈ ok.after, Region.binds md e = true → e.on ≠ i) → oi.apart ops ok = true := fun k ok hk hki hun hno => by
        refine hfree k ok hk hki ?_ hno
        by_cases hjk : j = k
        · subst hjk; exact hjun
        · rw [getD_set_ne true hjk] at hun; exact hun
      rcases H.2 j (ready_mono hj hji) with ⟨hjn, h1⟩ | ⟨hjn, h1⟩
      · refine .inl ⟨hjn, ?_⟩
        have h2 := qOp_put2 hoj (hfree j oj hoj hji hjun hnot) (fun cs b => hsel i oi cs b hi) (fun cs b => hsel j oj cs b hoj) hy hz h1
        refine qOp_mono (fun a' h3 => ih (listed.setIfInBounds j true) a' (inv.set hj hjn) hfree' (ready_mono hr (Ne.symm hji)) h3.1 h3.2.1 ?_) h2
        rw [Array.setIfInBounds_comm _ _ hji]
        exact h3.2.2
      · cases hB : B.contains i with
        | false => exact absurd hj (tail_waitsM hs hc hn inv _ i rfl hin hB hun j hjn)
        | true =>
          refine .inr ⟨hjn, fun w hw => ?_⟩
          have h2 := wpOp_put hoj (hfree j oj hoj hji hjun hnot) (fun cs b => hsel i oi cs b hi) (fun cs b => hsel j oj cs b hoj) hQ (hz hB) (h1 w hw)
          refine wpOp_mono (fun a' w' h3 => wpAny_first hi hsel hQ f (listed.setIfInBounds j true) a' w' hfree' (ready_mono hr (Ne.symm hji)) h3.1 ?_) h2
          rw [Array.setIfInBounds_comm _ _ hji]
          exact h3.2

/-- The walk in the text's order: what stands in B yields in whatever world. -/
def wpLex (P : Program) (ops : Array Oper) (C : World → Prop) (B : List Nat) (Q : Act → Prop) : Nat → List Oper → Act → Prop
  | _, [], a => Q a
  | k, o :: rest, a =>
    if B.contains k then Region.wanted o (yielded ops a.tmps) = true ∧ ∃ v, (∀ w, (execOp a.eval o).run P w = .ok (.value v) w) ∧ wpLex P ops C B Q (k + 1) rest (a.put o.dst v)
    else if Region.wanted o (yielded ops a.tmps) then o.quiet P a C (wpLex P ops C B Q (k + 1) rest) else wpLex P ops C B Q (k + 1) rest (a.put o.dst undef)

theorem wpLex_nil {B : List Nat} {Q : Act → Prop} {k : Nat} {a : Act} (h : Q a) : wpLex P ops C B Q k [] a := h
theorem wpLex_pure {B : List Nat} {Q : Act → Prop} {k : Nat} {o : Oper} {rest : List Oper} {a : Act} (v : Value) (hB : B.contains k = true) (hw : Region.wanted o (yielded ops a.tmps) = true)
    (hv : ∀ w, (execOp a.eval o).run P w = .ok (.value v) w) (h : wpLex P ops C B Q (k + 1) rest (a.put o.dst v)) : wpLex P ops C B Q k (o :: rest) a := by
  rw [wpLex, if_pos hB]
  exact ⟨hw, v, hv, h⟩
theorem wpLex_seg {B : List Nat} {Q : Act → Prop} : ∀ (m k : Nat) (l : List Oper) (a : Act), ((List.range m).all fun i => !B.contains (k + i)) = true → m ≤ l.length →
    wpQuiet P ops C (fun a' => wpLex P ops C B Q (k + m) (l.drop m) a') (l.take m) a → wpLex P ops C B Q k l a
  | 0, k, l, a, _, _, h => by simpa [wpQuiet] using h
  | m + 1, k, [], a, _, hl, _ => by simp at hl
  | m + 1, k, o :: l, a, hb, hl, h => by
    have h0 : B.contains k = false := by
      have := List.all_eq_true.1 hb 0 (List.mem_range.2 (by omega))
      simpa using this
    have hb' : ((List.range m).all fun i => !B.contains (k + 1 + i)) = true := List.all_eq_true.2 fun i hi => by
      have := List.all_eq_true.1 hb (i + 1) (List.mem_range.2 (by have := List.mem_range.1 hi; omega))
      rw [show k + (i + 1) = k + 1 + i by omega] at this
      exact this
    have hst : ∀ a', wpQuiet P ops C (fun a' => wpLex P ops C B Q (k + (m + 1)) (l.drop m) a') (l.take m) a' → wpLex P ops C B Q (k + 1) l a' := fun a' h' =>
      wpLex_seg m (k + 1) l a' hb' (by simpa using hl) (by rw [show k + 1 + m = k + (m + 1) by omega]; exact h')
    rw [wpLex, if_neg (by rw [h0]; simp)]
    simp only [List.take_succ_cons, List.drop_succ_cons] at h
    unfold wpQuiet at h
    split
    · rename_i hw
      rw [if_pos hw] at h
      exact Oper.quiet_mono hst h
    · rename_i hw
      rw [if_neg hw] at h
      exact hst _ h

theorem wpAnyM_lex {n g : Nat} {B : List Nat} {Q : Exit → Act → World → Prop} {Lq : Act → Prop} (hsel : Region.noSelect ops = true) (hs : sinkM md ops n B = true) (hc : Region.chainB md ops n = true) (hn : n < ops.size)
    (hQ : ∀ c a d v w, Q (.panic c) (a.put d v) w → Q (.panic c) a w)
    (hL : ∀ listed a, Region.seqB md ops (g + 1) n listed = true → Lq a → wpAnyM P md ops C Q n (g + 1) listed a) :
    ∀ (l : List Oper) (k : Nat) (listed : Array Bool) (a : Act), (∀ j, j < l.length → l[j]? = ops[k + j]?) → k + l.length = n → HeadInv md ops n listed →
    Region.lexHead md ops (g + 1) l.length k listed = true → wpLex P ops C B Lq k l a →
    wpAnyM P md ops C Q n (l.length + (g + 1)) listed a
  | [], k, listed, a, _, hk, _, hB, h => by
    have : k = n := by simpa using hk
    subst this
    simp only [List.length_nil, Nat.zero_add]
    exact hL _ _ (by simpa [Region.lexHead] using hB) h
  | o :: l, k, listed, a, hl, hk, inv, hB, h => by
    have h0 : ops[k]? = some o := by simpa using (hl 0 (by simp)).symm
    simp only [List.length_cons, Region.lexHead, Bool.and_eq_true] at hB
    obtain ⟨⟨hr, hf⟩, hB'⟩ := hB
    have hkn : k < n := by simp only [List.length_cons] at hk; omega
    have hr' : k ∈ Region.ready md ops listed := by simpa using hr
    have recur := wpAnyM_lex (B := B) (Lq := Lq) hsel hs hc hn hQ hL l (k + 1)
    have key : ∃ v, YieldsIn P ops C o v a ∧ (B.contains k = true → Yields P ops o v a) ∧ wpLex P ops C B Lq (k + 1) l (a.put o.dst v) := by
      rw [wpLex] at h
      split at h
      · obtain ⟨hw, v, hv, hK⟩ := h
        exact ⟨v, .inl ⟨hw, fun w _ => by unfold Oper.quietAt; rw [hv w]; exact ⟨rfl, rfl⟩⟩, fun _ => .inl ⟨hw, hv⟩, hK⟩
      · rename_i hb
        split at h
        · rename_i hw
          obtain ⟨v, h1, h2⟩ := h
          exact ⟨v, .inl ⟨hw, h1⟩, fun e => absurd e hb, h2⟩
        · rename_i hw
          exact ⟨undef, .inr ⟨by simpa using hw, rfl⟩, fun e => absurd e hb, h⟩
    obtain ⟨v, hy, hz, hK⟩ := key
    rw [List.length_cons, show l.length + 1 + (g + 1) = (l.length + (g + 1)) + 1 by omega]
    exact wpAnyM_first h0 (Region.noSelect_spec hsel) hs hc hn hkn (fun c a w => hQ c a o.dst v w) _ listed a inv (Region.free_spec h0 hf) hr' hy hz
      (recur _ _ (fun j hj => by have := hl (j + 1) (by simp; omega); simpa [Nat.add_assoc, Nat.add_comm 1 j] using this) (by simp only [List.length_cons] at hk; omega) (inv.set hr' hkn) hB' hK)

/-- The Bool that is asked of the region. -/
def lateB (md : Region.Mode) (ops : Array Oper) (n : Nat) (B : List Nat) : Bool :=
  Region.noSelect ops && decide (n < ops.size) && sinkM md ops n B && Region.chainB md ops n && Region.lexHead md ops (ops.size - n - 1 + 1) n 0 (Array.replicate ops.size false)

theorem wp_region_late {id : Nat} {Q : Exit → Act → World → Prop} {a : Act} {w : World} {l : List Oper} (C : World → Prop) (n : Nat) (B : List Nat) (hm : P.follows .mixedOrders = true) (hB : lateB .any l.toArray n B = true)
    (hQ : ∀ c a d v w, Q (.panic c) (a.put d v) w → Q (.panic c) a w)
    (hC : C w.drew) (h : wpLex P l.toArray C B (fun a' => ∀ w', C w' → wpList P l.toArray Q (l.drop n) a' w') 0 (l.take n) a) : (Code.region id l.toArray true).wp P Q a w := by
  simp only [lateB, Bool.and_eq_true, decide_eq_true_eq] at hB
  obtain ⟨⟨⟨⟨hsel, hn⟩, hs⟩, hc⟩, hlex⟩ := hB
  have hn' : n < l.length := by simpa using hn
  have htl : (l.take n).length = n := by simp; omega
  have hsz : l.toArray.size = l.length := by simp
  have hdl : (l.drop n).length = l.toArray.size - n - 1 + 1 := by simp; omega
  have inv0 : HeadInv .any l.toArray n (Array.replicate l.toArray.size false) :=
    ⟨by simp, fun j oj _ hl => (by rw [getD_replicate_false] at hl; cases hl), fun t _ ht => getD_in (by simpa using ht) (getD_replicate_false _ _)⟩
  have H := wpAnyM_lex (C := C) (Q := Q) (md := .any) (g := l.toArray.size - n - 1) (B := B) (Lq := fun a' => ∀ w', C w' → wpList P l.toArray Q (l.drop n) a' w') hsel hs hc hn hQ
    (fun listed a' hsq hq => by
      have hw : ∀ w', C w' → wpAny P .any l.toArray Q (l.toArray.size - n - 1 + 1) listed a' w' := fun w' hw' => by
        have := wpAny_of_seq (md := .any) (Q' := Q) (l.drop n) n listed a' w' (fun j => by simp [List.getElem?_drop]) (by rw [hdl]; exact hsq) (hq w' hw')
        rwa [hdl] at this
      refine ⟨fun h0 w' hw' => (hw w' hw').1 h0, fun i hi => .inr ⟨seqB_ready hsq i hi, fun w' hw' => (hw w' hw').2 i hi⟩⟩)
    (l.take n) 0 _ a (fun j hj => by
      have hj' : j < n := by rw [htl] at hj; exact hj
      simp [hj']) (by simpa using htl) inv0 (by rw [htl]; exact hlex) h
  refine wp_region_any hm ?_
  have := wpAny_of_mix _ _ _ _ hC H
  rw [htl, show n + (l.toArray.size - n - 1 + 1) = l.toArray.size by omega] at this
  exact this

/-- The class: some draws. -/
theorem wp_late_drew {id : Nat} {Q : Exit → Act → World → Prop} {a : Act} {w : World} {l : List Oper} (n : Nat) (B : List Nat) (hm : P.follows .mixedOrders = true) (hB : lateB .any l.toArray n B = true)
    (hQ : ∀ c a d v w, Q (.panic c) (a.put d v) w → Q (.panic c) a w)
    (h : wpLex P l.toArray (fun w' => ∃ n, w' = w.drewN n) B (fun a' => ∀ q, wpList P l.toArray Q (l.drop n) a' (w.drewN q)) 0 (l.take n) a) : (Code.region id l.toArray true).wp P Q a w :=
  wp_region_late (fun w' => ∃ n, w' = w.drewN n) n B hm hB hQ ⟨1, rfl⟩ (by
    have e : (fun a' => ∀ w', (∃ n, w' = w.drewN n) → wpList P l.toArray Q (l.drop n) a' w') = (fun a' => ∀ q, wpList P l.toArray Q (l.drop n) a' (w.drewN q)) := by
      funext a'
      exact propext ⟨fun h q => h _ ⟨q, rfl⟩, fun h w' ⟨q, e⟩ => by subst e; exact h q⟩
    rw [e]
    exact h)
/-- A callee's contract, met in a world near w. -/
theorem near_call {f : FuncId} {args : Array Value} {S : List Nat} {w : World} {v : Value} (i : Near S w) (h : Calls P f args i.W fun e w' => e = .returned v ∧ Only S i.W w') : Calls P f args i.W fun e w'' => e = .returned v ∧ ∃ j : Near S w, w'' = j.W :=
  h.mono fun _ w' ⟨he, ho⟩ => ⟨he, ⟨w', i.only.trans ho⟩, rfl⟩
theorem near_drew {f : FuncId} {args : Array Value} {S : List Nat} {w : World} {v : Value} (i : Near S w) (h : Calls P f args i.W fun e w' => e = .returned v ∧ ∃ n, w' = i.W.drewN n) : Calls P f args i.W fun e w'' => e = .returned v ∧ ∃ j : Near S w, w'' = j.W :=
  near_call i (h.mono fun _ _ ⟨he, n, hn⟩ => ⟨he, by rw [hn]; exact (Only.refl S i.W).drewN n⟩)
end
end Go.Proofs.Ytglkpoiajebleaa
