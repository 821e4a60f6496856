/- DERIVED. In a round of a loop over a function: a region that draws its order: a quiet head without calls, then a tail in the order of the text. -/
import Derived.Test.YticpophdoiljfaaQt
import Derived.TacticsIn
import Derived.TacticsInMore
import Derived.OrdersIn
import Derived.OrdersHeld
namespace Go.Proofs.Yticpophdoiljfaa
open Go Go.RowKit

def plainB (o : Oper) : Bool := match o.op with
  | .move _ | .assign _ | .load _ _ | .fieldAddr _ _ _ | .indexAddr _ _ _ | .binOp _ _ _ _ _ | .build _ _ => true
  | _ => false
theorem about_plain {o : Oper} (h : plainB o = true) (P : Program) (w : World) (ρ : Operand → Value) : o.about P w ρ = none := by
  unfold Oper.about
  unfold plainB at h
  split <;> simp_all
theorem no_defer {o : Oper} (h : plainB o = true) : ∀ c, o.op ≠ .defer c := by
  intro c hc
  unfold plainB at h
  simp [hc] at h
theorem bind_value {P : Program} {w : World} (x : Sem Value) : (∃ u w', (do let v ← x; pure (Next.value v) : Sem Next).run P w = .ok (.value u) w') ∨ ∃ e w', (do let v ← x; pure (Next.value v) : Sem Next).run P w = .halt e w' := by
  simp only [Sem.run_bind]
  generalize x.run P w = r
  cases r with
  | ok v w' => exact .inl ⟨v, w', rfl⟩
  | halt e w' => exact .inr ⟨e, w', rfl⟩
theorem plain_value {o : Oper} (h : plainB o = true) (P : Program) (w : World) (ρ : Operand → Value) : (∃ u w', (execOp ρ o).run P w = .ok (.value u) w') ∨ ∃ x w', (execOp ρ o).run P w = .halt x w' := by
  unfold plainB at h
  unfold execOp
  split at h <;> rename_i hop <;> simp only [hop]
  all_goals first
    | exact .inl ⟨_, _, rfl⟩
    | exact bind_value _
    | cases h

section
variable {F : Fence} {n : Nat} {P : Program} {ops : Array Oper} {md : Region.Mode} {C : World → Prop}

theorem wpOpIn_of_qOp {i : Nat} {a : Act} {K : Act → Prop} {K' : Act → World → Prop} {Q' : Exit → Act → World → Prop} {w : World} (hp : ∀ o, ops[i]? = some o → plainB o = true) (hC : C w) (h : ∀ a w', C w' → K a → K' a w') (hh : qOp P ops C i K a) : wpOpIn F n P ops Q' i K' a w := by
  unfold qOp at hh
  unfold wpOpIn
  split
  · rename_i ho; simp only [ho] at hh; exact h _ _ hC hh
  · rename_i o ho
    have hpl := hp o ho
    simp only [ho] at hh
    split
    · rename_i hw
      simp only [hw, if_true] at hh
      obtain ⟨v, h1, h2⟩ := hh
      refine ⟨fun f hf => (by rw [about_plain hpl] at hf; cases hf), ?_⟩
      rw [Oper.semAt_eq F.round a.eval o (no_defer hpl)]
      have h3 := h1 w hC
      unfold Oper.quietAt at h3
      rcases plain_value hpl P w a.eval with ⟨u, w', e⟩ | ⟨x, w', e⟩
      · rw [e] at h3 ⊢
        simp only [Oper.quietUpon] at h3
        obtain ⟨rfl, rfl⟩ := h3
        exact h _ _ hC h2
      · rw [e] at h3
        simp only [Oper.quietUpon] at h3
    · rename_i hw
      simp only [hw] at hh
      exact ⟨fun f hf => (by rw [about_plain hpl] at hf; cases hf), h _ _ hC hh⟩

theorem wpAnyIn_of_qhead {m g : Nat} {L : Array Bool → Act → Prop} {Q' : Exit → Act → World → Prop} (hp : ∀ i o, i < m → ops[i]? = some o → plainB o = true) (hL : ∀ listed a w, C w → L listed a → wpAnyIn F n P md ops Q' g listed a w) :
    ∀ (f : Nat) (listed : Array Bool) (a : Act) (w : World), C w → wpAnyQL P md ops C m L f listed a → wpAnyIn F n P md ops Q' (f + g) listed a w
  | 0, listed, a, w, hw, h => by rw [Nat.zero_add]; exact hL _ _ _ hw h
  | f + 1, listed, a, w, hw, h => by
    rw [show f + 1 + g = (f + g) + 1 by omega]
    exact ⟨fun h0 => absurd h0 h.1, fun i hi => wpOpIn_of_qOp (fun o ho => hp i o (h.2 i hi).1 ho) hw (fun a' w' hw' h' => wpAnyIn_of_qhead hp hL f _ a' w' hw' h') (h.2 i hi).2⟩

theorem wpAnyIn_of_seq {Q' : Exit → Act → World → Prop} : ∀ (l : List Oper) (k : Nat) (listed : Array Bool) (a : Act) (w : World), (∀ j, l[j]? = ops[k + j]?) →
    Region.seqB md ops l.length k listed = true → wpListIn F n P ops Q' l a w → wpAnyIn F n P md ops Q' l.length listed a w
  | [], _, _, _, _, _, hB, h => ⟨by simpa [Region.seqB] using hB, h⟩
  | o :: l, k, listed, a, w, hl, hB, h => by
    have h0 : ops[k]? = some o := by simpa using (hl 0).symm
    simp only [List.length_cons, Region.seqB, Bool.and_eq_true, decide_eq_true_eq] at hB
    refine ⟨fun h1 => (by rw [hB.1] at h1; cases h1), fun i hi => ?_⟩
    rw [hB.1] at hi
    have hik : i = k := by simpa using hi
    subst hik
    have hw : wpOpIn F n P ops Q' i (wpListIn F n P ops Q' l) a w := by unfold wpOpIn; simp only [h0]; exact h
    exact wpOpIn_mono (fun a' w' h' => wpAnyIn_of_seq l (i + 1) _ a' w' (fun j => by have := hl (j + 1); simpa [Nat.add_assoc, Nat.add_comm 1 j] using this) hB.2 h') hw

/-- The class: some draws. -/
theorem wpIn_tail_drew {id : Nat} {Q : Exit → Act → World → Prop} {a : Act} {w : World} {l : List Oper} (m : Nat) (hm : P.follows .mixedOrders = true) (hB : Region.lexTailB .any l.toArray m = true) (hp : (l.take m).all plainB = true)
    (h : wpQuiet P l.toArray (fun w' => ∃ n, w' = w.drewN n) (fun a' => ∀ q, wpListIn F n P l.toArray Q (l.drop m) a' (w.drewN q)) (l.take m) a) : (Code.region id l.toArray true).wpIn F n P Q a w := by
  simp only [Region.lexTailB, Bool.and_eq_true, decide_eq_true_eq] at hB
  obtain ⟨⟨⟨⟨hsel, hn⟩, hs⟩, hc⟩, hlex⟩ := hB
  have hn' : m < l.length := by simpa using hn
  have htl : (l.take m).length = m := by simp; omega
  have hdl : (l.drop m).length = l.toArray.size - m := by simp
  have inv0 : HeadInv .any l.toArray m (Array.replicate l.toArray.size false) :=
    ⟨by simp, fun j oj _ hl => (by rw [getD_replicate_false] at hl; cases hl), fun t _ ht => getD_in (by simpa using ht) (getD_replicate_false _ _)⟩
  have H := wpAnyQL_lex (C := fun w' => ∃ n, w' = w.drewN n) (md := .any) (g := l.toArray.size - m) hsel hs hc hn (l.take m) 0 _ a (fun j hj => by
    have hj' : j < m := by rw [htl] at hj; exact hj
    simp [hj']) (by simpa using htl) inv0 (by rw [htl]; exact hlex) h
  refine wpIn_region_any hm ?_
  have := wpAnyIn_of_qhead (F := F) (n := n) (Q' := Q) (g := l.toArray.size - m) (fun i o hi ho => by
    refine List.all_eq_true.1 hp o (List.mem_iff_getElem?.2 ⟨i, ?_⟩)
    rw [List.getElem?_take, if_pos hi]
    simpa using ho) (fun listed a' w' hw' hL => by
    obtain ⟨q, rfl⟩ := hw'
    have := wpAnyIn_of_seq (F := F) (n := n) (md := .any) (Q' := Q) (l.drop m) m listed a' (w.drewN q) (fun j => by simp [List.getElem?_drop]) (by rw [hdl]; exact hL.1) (hL.2 q)
    rwa [hdl] at this) _ _ _ w.drew ⟨1, rfl⟩ H
  rw [htl, show m + (l.toArray.size - m) = l.toArray.size by omega] at this
  exact this
/-! A head whose last operation makes memory: the others are taken first under a condition S that it keeps. -/
/-- A world that meets S. -/
structure HeldW (S : World → Prop) where
  W : World
  ok : S W
theorem yieldsIf_of_quiet {S : World → Prop} {o : Oper} {v : Value} {a : Act} (hp : plainB o = true) (hw : Region.wanted o (yielded ops a.tmps) = true) (h : ∀ w, (∃ i : HeldW S, w = i.W) → o.quietAt P a (fun w' => ∃ i : HeldW S, w' = i.W) w v) : YieldsIf P ops S o v a := by
  refine .inl ⟨hw, fun w hS => ?_⟩
  have h3 := h w ⟨⟨w, hS⟩, rfl⟩
  unfold Oper.quietAt at h3
  rcases plain_value hp P w a.eval with ⟨u, w', e⟩ | ⟨x, w', e⟩
  · rw [e] at h3 ⊢
    simp only [Oper.quietUpon] at h3
    rw [h3.1, h3.2]
  · rw [e] at h3
    simp only [Oper.quietUpon] at h3
theorem yieldsIf_wpOpIn {S : World → Prop} {i : Nat} {o : Oper} {v : Value} {a : Act} {Q : Exit → Act → World → Prop} (hp : plainB o = true) (hi : ops[i]? = some o) (hy : YieldsIf P ops S o v a)
    {K : Act → World → Prop} {w : World} (hS : S w) (h : K (a.put o.dst v) w) : wpOpIn F n P ops Q i K a w := by
  unfold Go.wpOpIn
  simp only [hi]
  rcases hy with ⟨hw, hv⟩ | ⟨hw, rfl⟩
  · simp only [hw, if_true]
    refine ⟨fun f hf => (by rw [about_plain hp] at hf; cases hf), ?_⟩
    rw [Oper.semAt_eq F.round a.eval o (no_defer hp), hv w hS]
    exact h
  · simp only [hw, Bool.false_eq_true, if_false]
    exact ⟨fun f hf => (by rw [about_plain hp] at hf; cases hf), h⟩
theorem wpOpIn_putIf {S : World → Prop} {Q : Exit → Act → World → Prop} {j : Nat} {oi oj : Oper} {v : Value} (hj : ops[j]? = some oj) (hnd : ∀ c, oj.op ≠ .defer c) (hap : oi.apart ops oj = true)
    (hsi : ∀ cs b, oi.op ≠ .select cs b) (hsj : ∀ cs b, oj.op ≠ .select cs b)
    (hQ : ∀ c a w, Q (.panic c) (a.put oi.dst v) w → Q (.panic c) a w) {K : Act → World → Prop} {a : Act} {w : World}
    (hy : YieldsIf P ops S oi v a) (h : wpOpIn F n P ops Q j K (a.put oi.dst v) w) :
    wpOpIn F n P ops Q j (fun a' w' => YieldsIf P ops S oi v a' ∧ K (a'.put oi.dst v) w') a w := by
  obtain ⟨h1, h2, h3⟩ := Oper.apart_spec hap
  have keep : ∀ (a : Act), YieldsIf P ops S oi v a → ∀ u, YieldsIf P ops S oi v (a.put oj.dst u) := fun a hy u =>
    hy.of_same (execOp_put oi hsi a oj.dst u h3) (wanted_put oi a oj.dst u h3)
  have keepD : ∀ d, YieldsIf P ops S oi v { a with defers := d :: a.defers } := fun d => hy.of_same rfl rfl
  unfold wpOpIn at *
  simp only [hj] at *
  rw [wanted_put oj a oi.dst v h1, about_put oj w a oi.dst v h1] at h
  split
  · rename_i hw
    simp only [hw, if_true] at h
    unfold Oper.wpIn at *
    rw [about_put oj w a oi.dst v h1] at h
    refine ⟨h.1, ?_⟩
    have h := h.2
    rw [Oper.semAt_eq F.round _ oj hnd, execOp_put oj hsj a oi.dst v h1] at h
    rw [Oper.semAt_eq F.round _ oj hnd]
    generalize (execOp a.eval oj).run P w = r at *
    cases r with
    | ok x w' =>
      cases x <;> simp only [Oper.uponIn] at h ⊢
      case value u => exact ⟨keep a hy u, by rw [← Act.put_comm a v u h2]; exact h⟩
      case skip => exact ⟨keep a hy _, by rw [← Act.put_comm a v undef h2]; exact h⟩
      case defer d =>
        refine ⟨keep _ (keepD d) _, ?_⟩
        rw [← Act.put_comm _ v undef h2, ← Act.put_defers]
        exact h
      case enter f args =>
        refine ⟨h.1, CallsIn.mono h.2 fun e w'' he => ?_⟩
        cases e with
        | returned u => exact ⟨keep a hy u, by rw [← Act.put_comm a v u h2]; exact he⟩
        | panicked c => exact hQ _ _ _ he
        | outgrown => exact he
      case row row args => exact ⟨h.1, RowsIn.mono h.2 fun u w'' he => ⟨keep a hy u, by rw [← Act.put_comm a v u h2]; exact he⟩⟩
      case round l f tmps assign body =>
        refine ⟨h.1, RoundIn.mono h.2 fun e w'' he => ?_⟩
        cases e with
        | returned u => exact ⟨keep a hy u, by rw [← Act.put_comm a v u h2]; exact he⟩
        | panicked c => exact hQ _ _ _ he
        | outgrown => exact he
    | halt x w' =>
      cases x <;> simp only [Oper.uponIn] at h ⊢
      case panic u => exact hQ _ _ _ h
  · rename_i hw
    simp only [hw] at h
    exact ⟨h.1, keep a hy _, by rw [← Act.put_comm a v undef h2]; exact h.2⟩

def wpAnyHL (F : Fence) (n : Nat) (P : Program) (md : Region.Mode) (ops : Array Oper) (Q : Exit → Act → World → Prop) (S : World → Prop) (m : Nat) (L : Array Bool → Act → World → Prop) : Nat → Array Bool → Act → World → Prop
  | 0, listed, a, w => L listed a w
  | f + 1, listed, a, w => Region.ready md ops listed ≠ [] ∧ ∀ i ∈ Region.ready md ops listed, i < m ∧ wpOpIn F n P ops Q i (fun a' w' => S w' ∧ wpAnyHL F n P md ops Q S m L f (listed.setIfInBounds i true) a' w') a w
theorem wpAnyIn_of_HL {S : World → Prop} {Q : Exit → Act → World → Prop} {m g : Nat} {L : Array Bool → Act → World → Prop} (hL : ∀ listed a w, L listed a w → wpAnyIn F n P md ops Q g listed a w) :
    ∀ (f : Nat) (listed : Array Bool) (a : Act) (w : World), wpAnyHL F n P md ops Q S m L f listed a w → wpAnyIn F n P md ops Q (f + g) listed a w
  | 0, listed, a, w, h => by rw [Nat.zero_add]; exact hL _ _ _ h
  | f + 1, listed, a, w, h => by
    rw [show f + 1 + g = (f + g) + 1 by omega]
    exact ⟨fun h0 => absurd h0 h.1, fun i hi => wpOpIn_mono (fun a' w' h' => wpAnyIn_of_HL hL f _ a' w' h'.2) (h.2 i hi).2⟩
theorem wpAnyHL_first {S : World → Prop} {Q : Exit → Act → World → Prop} {m i : Nat} {oi : Oper} {v : Value} {L : Array Bool → Act → World → Prop} (hi : ops[i]? = some oi) (hpl : plainB oi = true) (hnd : ∀ (j : Nat) (o : Oper), ops[j]? = some o → ∀ c, o.op ≠ .defer c)
    (hsel : ∀ (j : Nat) (o : Oper) cs b, ops[j]? = some o → o.op ≠ .select cs b)
    (hs : Region.sinkB md ops m = true) (hc : Region.chainB md ops m = true) (hn : m < ops.size) (hin : i < m)
    (hdone : ∀ listed a w, L listed a w → ∀ j ∈ Region.ready md ops listed, m ≤ j) (hQ : ∀ c a w, Q (.panic c) (a.put oi.dst v) w → Q (.panic c) a w) :
    ∀ (f : Nat) (listed : Array Bool) (a : Act) (w : World), HeadInv md ops m listed →
      (∀ j oj, ops[j]? = some oj → j ≠ i → listed.getD j true = false → (∀ e ∈ oj.after, Region.binds md e = true → e.on ≠ i) → oi.apart ops oj = true) →
      i ∈ Region.ready md ops listed → YieldsIf P ops S oi v a → S w →
      wpAnyHL F n P md ops Q S m L f (listed.setIfInBounds i true) (a.put oi.dst v) w → wpAnyHL F n P md ops Q S m L (f + 1) listed a w := by
  intro f
  induction f with
  | zero =>
    intro listed a w inv _ hr hy hS H
    have hun := (mem_ready.1 hr).1
    refine ⟨fun h => (by rw [h] at hr; cases hr), fun j hj => ?_⟩
    have hjn : j < m := by
      rcases Nat.lt_or_ge j m with h | h
      · exact h
      · exact absurd hj (tail_waits hs hc hn inv _ i rfl hin hun j h)
    refine ⟨hjn, ?_⟩
    by_cases hji : j = i
    · subst hji; exact yieldsIf_wpOpIn hpl hi hy hS ⟨hS, H⟩
    · have := hdone _ _ _ H j (ready_mono hj hji)
      omega
  | succ f ih =>
    intro listed a w inv hfree hr hy hS H
    have hun := (mem_ready.1 hr).1
    refine ⟨fun h => (by rw [h] at hr; cases hr), fun j hj => ?_⟩
    have hjn : j < m := by
      rcases Nat.lt_or_ge j m with h | h
      · exact h
      · exact absurd hj (tail_waits hs hc hn inv _ i rfl hin hun j h)
    refine ⟨hjn, ?_⟩
    by_cases hji : j = i
    · subst hji; exact yieldsIf_wpOpIn hpl hi hy hS ⟨hS, H⟩
    · have h1 := (H.2 j (ready_mono hj hji)).2
      obtain ⟨hjun, oj, hoj, hall⟩ := mem_ready.1 hj
      have hnot : ∀ e ∈ oj.after, Region.binds md e = true → e.on ≠ i := fun e he hb heq => by
        have h1 := hall e he hb
        rw [heq, getD_both hun] at h1
        cases h1
      have h2 := wpOpIn_putIf hoj (hnd j oj hoj) (hfree j oj hoj hji hjun hnot) (fun cs b => hsel i oi cs b hi) (fun cs b => hsel j oj cs b hoj) hQ hy h1
      have hfree' : ∀ k ok, ops[k]? = some ok → k ≠ i → (listed.setIfInBounds j true).getD k true = false →
          (∀ e ∈ ok.after, Region.binds md e = true → e.on ≠ i) → oi.apart ops ok = true := fun k ok hk hki hun hno => by
        refine hfree k ok hk hki ?_ hno
        by_cases hjk : j = k
        · subst hjk; exact hjun
        · rw [getD_set_ne true hjk] at hun; exact hun
      refine wpOpIn_mono (fun a' w' h3 => ⟨h3.2.1, ih (listed.setIfInBounds j true) a' w' (inv.set hj hjn) hfree' (ready_mono hr (Ne.symm hji)) h3.1 h3.2.1 ?_⟩) h2
      rw [Array.setIfInBounds_comm _ _ hji]
      exact h3.2.2

theorem wpAnyHL_lex {S : World → Prop} {Q : Exit → Act → World → Prop} {m g : Nat} {w : World} {Lq : Act → Prop} {L : Array Bool → Act → World → Prop} (hsel : Region.noSelect ops = true) (hnd : ∀ (j : Nat) (o : Oper), ops[j]? = some o → ∀ c, o.op ≠ .defer c) (hs : Region.sinkB md ops (m + 1) = true) (hc : Region.chainB md ops (m + 1) = true) (hn : m + 1 < ops.size) (hS : S w)
    (hQ : ∀ c a d v w, Q (.panic c) (a.put d v) w → Q (.panic c) a w) (hdone : ∀ listed a w, L listed a w → ∀ j ∈ Region.ready md ops listed, m + 1 ≤ j)
    (hlast : ∀ listed a, HeadInv md ops (m + 1) listed → Region.lexHead md ops g 1 m listed = true → Lq a → wpAnyHL F n P md ops Q S (m + 1) L 1 listed a w) :
    ∀ (l : List Oper) (k : Nat) (listed : Array Bool) (a : Act), (∀ j, j < l.length → l[j]? = ops[k + j]?) → l.all plainB = true → k + l.length = m → HeadInv md ops (m + 1) listed →
    Region.lexHead md ops g (l.length + 1) k listed = true → wpQuiet P ops (fun w' => ∃ i : HeldW S, w' = i.W) Lq l a →
    wpAnyHL F n P md ops Q S (m + 1) L (l.length + 1) listed a w
  | [], k, listed, a, _, _, hk, inv, hB, h => by
    have : k = m := by simpa using hk
    subst this
    exact hlast _ _ inv (by simpa using hB) h
  | o :: l, k, listed, a, hl, hpl, hk, inv, hB, h => by
    have h0 : ops[k]? = some o := by simpa using (hl 0 (by simp)).symm
    simp only [List.all_cons, Bool.and_eq_true] at hpl
    simp only [List.length_cons] at hB
    rw [Region.lexHead] at hB
    simp only [Bool.and_eq_true] at hB
    obtain ⟨⟨hr, hf⟩, hB'⟩ := hB
    have hkn : k < m + 1 := by simp only [List.length_cons] at hk; omega
    have hr' : k ∈ Region.ready md ops listed := by simpa using hr
    have key : ∃ v, YieldsIf P ops S o v a ∧ wpQuiet P ops (fun w' => ∃ i : HeldW S, w' = i.W) Lq l (a.put o.dst v) := by
      unfold wpQuiet at h
      split at h
      · rename_i hw
        obtain ⟨v, h1, h2⟩ := h
        exact ⟨v, yieldsIf_of_quiet hpl.1 hw h1, h2⟩
      · rename_i hw
        exact ⟨undef, .inr ⟨by simpa using hw, rfl⟩, h⟩
    obtain ⟨v, hy, hK⟩ := key
    rw [List.length_cons]
    exact wpAnyHL_first h0 hpl.1 hnd (Region.noSelect_spec hsel) hs hc hn hkn hdone (fun c a w => hQ c a o.dst v w) _ listed a w inv (Region.free_spec h0 hf) hr' hy hS
      (wpAnyHL_lex hsel hnd hs hc hn hS hQ hdone hlast l (k + 1) _ _ (fun j hj => by have := hl (j + 1) (by simp; omega); simpa [Nat.add_assoc, Nat.add_comm 1 j] using this) hpl.2 (by simp only [List.length_cons] at hk; omega) (inv.set hr' hkn) hB' hK)

theorem wpIn_tail_held {id : Nat} {Q : Exit → Act → World → Prop} {a : Act} {w : World} {l : List Oper} (S : World → Prop) (m : Nat) (om : Oper) (hm : P.follows .mixedOrders = true) (hB : Region.lexTailB .any l.toArray (m + 1) = true) (hp : (l.take m).all plainB = true)
    (hnd : (l.all fun o => match o.op with | .defer _ => false | _ => true) = true) (hQ : ∀ c a d v w, Q (.panic c) (a.put d v) w → Q (.panic c) a w) (hom : l[m]? = some om) (hS : S w.drew)
    (h : wpQuiet P l.toArray (fun w' => ∃ i : HeldW S, w' = i.W) (fun a' => Region.wanted om (yielded l.toArray a'.tmps) = true ∧ om.wpIn F n P a' w.drew (fun a'' w'' => S w'' ∧ wpListIn F n P l.toArray Q (l.drop (m + 1)) a'' w'') Q) (l.take m) a) : (Code.region id l.toArray true).wpIn F n P Q a w := by
  simp only [Region.lexTailB, Bool.and_eq_true, decide_eq_true_eq] at hB
  obtain ⟨⟨⟨⟨hsel, hn⟩, hs⟩, hc⟩, hlex⟩ := hB
  have hn' : m + 1 < l.length := by simpa using hn
  have htl : (l.take m).length = m := by simp; omega
  have hdl : (l.drop (m + 1)).length = l.toArray.size - (m + 1) := by simp
  have hnd' : ∀ (j : Nat) (o : Oper), l.toArray[j]? = some o → ∀ c, o.op ≠ .defer c := fun j o ho c hcx => by
    have h1 := List.all_eq_true.1 hnd o (List.mem_iff_getElem?.2 ⟨j, by simpa using ho⟩)
    simp [hcx] at h1
  have inv0 : HeadInv .any l.toArray (m + 1) (Array.replicate l.toArray.size false) :=
    ⟨by simp, fun j oj _ hl => (by rw [getD_replicate_false] at hl; cases hl), fun t _ ht => getD_in (by simpa using ht) (getD_replicate_false _ _)⟩
  have H := wpAnyHL_lex (F := F) (n := n) (P := P) (Q := Q) (S := S) (w := w.drew) (md := .any) (m := m) (g := l.toArray.size - (m + 1)) (L := fun listed a' w' => Region.seqB .any l.toArray (l.toArray.size - (m + 1)) (m + 1) listed = true ∧ wpListIn F n P l.toArray Q (l.drop (m + 1)) a' w') hsel hnd' hs hc hn hS hQ
    (fun listed a' w' hL => seqB_ready hL.1)
    (fun listed a' inv hB1 hq => by
      simp only [Region.lexHead, Bool.and_eq_true] at hB1
      obtain ⟨⟨hr, _⟩, hB2⟩ := hB1
      have hr' : m ∈ Region.ready .any l.toArray listed := by simpa using hr
      have hun := (mem_ready.1 hr').1
      refine ⟨fun e => (by rw [e] at hr'; cases hr'), fun i hi => ?_⟩
      have him : i = m := by
        by_cases e : i = m
        · exact e
        · have h1 := seqB_ready hB2 i (ready_mono hi e)
          exact absurd hi (tail_waits hs hc hn inv _ m rfl (by omega) hun i h1)
      subst him
      refine ⟨by omega, ?_⟩
      unfold wpOpIn
      have : l.toArray[i]? = some om := by simpa using hom
      simp only [this]
      rw [if_pos hq.1]
      exact Oper.wpIn_mono (fun a'' w'' hh => ⟨hh.1, hB2, hh.2⟩) hq.2)
    (l.take m) 0 _ a (fun j hj => by
      have hj' : j < m := by rw [htl] at hj; exact hj
      simp [hj']) hp (by simpa using htl) inv0 (by rw [htl]; exact hlex) h
  refine wpIn_region_any hm ?_
  have := wpAnyIn_of_HL (F := F) (n := n) (Q := Q) (g := l.toArray.size - (m + 1)) (fun listed a' w' hL => by
    have := wpAnyIn_of_seq (F := F) (n := n) (md := .any) (Q' := Q) (l.drop (m + 1)) (m + 1) listed a' w' (fun j => by simp [List.getElem?_drop]) (by rw [hdl]; exact hL.1) hL.2
    rwa [hdl] at this) _ _ _ _ H
  rw [htl, show m + 1 + (l.toArray.size - (m + 1)) = l.toArray.size by omega] at this
  exact this
end
end Go.Proofs.Yticpophdoiljfaa
