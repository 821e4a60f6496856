/- DERIVED. The statements of chapter 26: a voice's notes (make). -/
import Derived.Test.YtglkpoiajebleaaStm
import Derived.Test.YtglkpoiajebleaaGps
namespace Go.Proofs.Ytglkpoiajebleaa
open Go.RowKit

/-- A note of a voice in short, and its heights. -/
structure Vn where (a b c : Int)
structure Vh where (h c : Int)
structure Vn.Ok (x : Vn) : Prop where
  a : 0 ≤ x.a ∧ x.a ≤ 255
  b : 0 ≤ x.b ∧ x.b ≤ 255
  c : 0 ≤ x.c ∧ x.c ≤ 255
structure Vh.Ok (x : Vh) : Prop where
  h : -128 ≤ x.h ∧ x.h ≤ 127
  c : -128 ≤ x.c ∧ x.c ≤ 127
structure VnsAt (w : World) (A : Option Addr) (l : List Vn) : Prop where
  at_ : ∀ i (h : i < l.length), ∃ b off, A = some ⟨b, off, none⟩ ∧ b < w.heap.size ∧ w.cell? ⟨b, off + i * 3, none⟩ = some (.int .u8 l[i].a) ∧ w.cell? ⟨b, off + i * 3 + 1, none⟩ = some (.int .u8 l[i].b) ∧ w.cell? ⟨b, off + i * 3 + 2, none⟩ = some (.int .u8 l[i].c)
  ok : ∀ x ∈ l, x.Ok
structure VhsAt (w : World) (A : Option Addr) (l : List Vh) : Prop where
  at_ : ∀ i (h : i < l.length), ∃ b off, A = some ⟨b, off, none⟩ ∧ b < w.heap.size ∧ w.cell? ⟨b, off + i * 2, none⟩ = some (.int .i8 l[i].h) ∧ w.cell? ⟨b, off + i * 2 + 1, none⟩ = some (.int .i8 l[i].c)
  ok : ∀ x ∈ l, x.Ok
theorem VnsAt.only {w w' : World} {A : Option Addr} {l : List Vn} (h : VnsAt w A l) (o : Only [] w w') : VnsAt w' A l :=
  ⟨fun i hi => by
    obtain ⟨b, off, hA, hb, h0, h1, h2⟩ := h.at_ i hi
    have := o.size
    exact ⟨b, off, hA, by omega, (o.cell hb (by simp)).trans h0, (o.cell hb (by simp)).trans h1, (o.cell hb (by simp)).trans h2⟩, h.ok⟩
theorem VhsAt.only {w w' : World} {A : Option Addr} {l : List Vh} (h : VhsAt w A l) (o : Only [] w w') : VhsAt w' A l :=
  ⟨fun i hi => by
    obtain ⟨b, off, hA, hb, h0, h1⟩ := h.at_ i hi
    have := o.size
    exact ⟨b, off, hA, by omega, (o.cell hb (by simp)).trans h0, (o.cell hb (by simp)).trans h1⟩, h.ok⟩
def vnAt (l : List Vn) (i : Nat) : Vn := l.getD i ⟨0, 0, 0⟩
/-- When the note of an index begins. -/
def mkT (ns : List Vn) : Nat → Int
  | 0 => 0
  | i + 1 => mkT ns i + (1 + (vnAt ns i).a % 6) * 120960 + (if 250 ≤ (vnAt ns i).c then 120960 else 0)
def mkN (ns : List Vn) (hs : List Vh) (i : Nat) : Nt :=
  ⟨mkT ns i, (1 + (vnAt ns i).a % 6) * 120960, (vnAt ns i).b % 4, (vnAt ns i).c % 3, if h : i < hs.length then 16 * hs[i].h else 0, if h : i < hs.length then 16 * hs[i].c else -1000⟩
def mkL (ns : List Vn) (hs : List Vh) (n : Nat) : List Nt := (List.range n).map (mkN ns hs)
def vLen (ns : List Vn) : Nat := min ns.length 16
def voiceL (ns : List Vn) (hs : List Vh) : List Nt := mkL ns hs (vLen ns)
theorem mkL_len (ns : List Vn) (hs : List Vh) (n : Nat) : (mkL ns hs n).length = n := by simp [mkL]
theorem mkL_succ (ns : List Vn) (hs : List Vh) (n : Nat) : mkL ns hs (n + 1) = mkL ns hs n ++ [mkN ns hs n] := by simp [mkL, List.range_succ]
theorem mkT_rng (ns : List Vn) : ∀ i, 0 ≤ mkT ns i ∧ mkT ns i ≤ 846720 * (i : Int)
  | 0 => by simp [mkT]
  | i + 1 => by
    have := mkT_rng ns i
    rw [mkT]
    push_cast
    split <;> omega
/-- The cells of notes. -/
def nCells (l : List Nt) : List Value := l.flatMap Nt.vs
theorem nCells_len (l : List Nt) : (nCells l).length = l.length * 6 := by
  induction l with
  | nil => rfl
  | cons p r ih => simp [nCells, Nt.vs] at ih ⊢; omega
theorem nCells_snoc (l : List Nt) (p : Nt) : nCells (l ++ [p]) = nCells l ++ p.vs := by simp [nCells]
theorem nCells_get : ∀ (l : List Nt) (i : Nat) (hi : i < l.length) (k : Nat), k < 6 → (nCells l)[i * 6 + k]? = (l[i].vs)[k]?
  | [], i, hi, _, _ => absurd hi (by simp)
  | x :: r, 0, _, k, hk => by
    have e : nCells (x :: r) = x.vs ++ nCells r := rfl
    rw [e, Nat.zero_mul, Nat.zero_add, List.getElem?_append_left (by exact hk)]
    rfl
  | x :: r, i + 1, hi, k, hk => by
    have e : nCells (x :: r) = x.vs ++ nCells r := rfl
    rw [e, List.getElem?_append_right (by show x.vs.length ≤ _; have : x.vs.length = 6 := rfl; omega), show (i + 1) * 6 + k - x.vs.length = i * 6 + k by have : x.vs.length = 6 := rfl; omega]
    exact nCells_get r i (by simpa using hi) k hk
theorem own_notes {w : World} {base n : Nat} {v : Value} {l : List Nt} (h : w.ownsRow base 42 6 v n (nCells l)) :
    ∃ A c, v = .slice A l.length c ∧ l.length = n ∧ l.length ≤ c ∧ NotesAt w A l := by
  have hl : l.length = n := by have := h.1; rw [nCells_len] at this; omega
  subst hl
  rcases h.2 with ⟨hv, hn⟩ | ⟨g, cap, cur, rfl, hb, hg, h1, h2, h3, hr⟩
  · exact ⟨none, 0, by rw [hv, hn], rfl, by omega, fun i hi => absurd hi (by omega)⟩
  · refine ⟨_, _, rfl, rfl, h1, fun i hi => ⟨g, 0, rfl, (h.lt g rfl).2, fun k hk => ?_⟩⟩
    rw [Nat.zero_add, h.cellAt _ (by omega)]
    exact nCells_get l i hi k hk
theorem note_info : (Try.prog.info? 42).map (fun i => (i.zero, i.size, i.bytes)) = some (some (.agg #[.int .i64 0, .int .i64 0, .int .i64 0, .int .i64 0, .int .i64 0, .int .i64 0]), 6, 48) := by kernel_rfl
abbrev voiV (o : Int) (A : Option Addr) (n c : Nat) (B : Option Addr) (m d : Nat) : Value := .agg #[.int .u8 o, .slice A n c, .slice B m d]

set_option maxRecDepth 20000 in
set_option maxHeartbeats 8000000 in
theorem make_any {w : World} {A B : Option Addr} {ns : List Vn} {hs : List Vh} (c d : Nat) (hA : VnsAt w A ns) (hB : VhsAt w B hs) (o : Int) (ho : 0 ≤ o ∧ o ≤ 255) :
    Calls Try.prog 10 #[voiV o A ns.length c B hs.length d] w fun e w' => ∃ v, e = .returned (.tuple #[.int .i64 (o % 32 * 120960), v]) ∧ w'.ownsRow w.heap.size 42 6 v (vLen ns) (nCells (voiceL ns hs)) ∧ Only [] w w' := by
  obtain ⟨i0, hi0, hz0, hz1, hz2⟩ := info_parts note_info
  have HA := Lib.hid hA
  have HB := Lib.hid hB
  have BV := Lib.hid (Blk.new w 25 [.int .u8 o, .slice A ns.length c, .slice B hs.length d])
  have O0 := Lib.hid ((Only.refl [] w).alloc (.cells #[.int .u8 o, .slice A ns.length c, .slice B hs.length d] 25))
  clear hA hB
  go_enter Try.func10, Try.ntmps10
  go_wp2_with fail
  obtain ⟨W0, hW0⟩ : ∃ W0, w.alloc (.cells #[.int .u8 o, .slice A ns.length c, .slice B hs.length d] 25) = W0 := ⟨_, rfl⟩
  rw [hW0] at O0 BV ⊢
  have hsz := O0.out.size
  clear hW0
  go_loopw [3, 4, 5] (fun l t i wr => ∃ (j : Nat) (v : Value), j ≤ vLen ns ∧ i = .int .i64 j ∧ v = l ∧ t = .int .i64 (mkT ns j) ∧ wr.ownsRow W0.heap.size 42 6 v j (nCells (mkL ns hs j)) ∧ Only [] W0 wr) (fun _ _ i _ => vLen ns - (intOf i).toNat)
  case atStart => exact ⟨0, _, by omega, rfl, rfl, rfl, World.ownsRow_nil _ _ _ _, Only.refl _ _⟩
  case round =>
    obtain ⟨j, v, hj, rfl, rfl, rfl, hown, hO⟩ := hrel
    have bv := BV.out.only hO (by simp)
    have q0 := bv.cell 0
    have q1 := bv.cell 1
    have q2 := bv.cell 2
    simp only [List.getElem?_cons_zero, List.getElem?_cons_succ] at q0 q1 q2
    have HO := Lib.hid hO
    have HOW := Lib.hid hown
    have HBV := Lib.hid bv
    clear bv hO hown
    by_cases hlt : j < vLen ns
    · have hj1 : j < ns.length := by unfold vLen at hlt; omega
      have hj2 : j < 16 := by unfold vLen at hlt; omega
      have hok := (HA.out.ok ns[j] (List.getElem_mem _))
      obtain ⟨b, off, rfl, hb, a0, a1, a2⟩ := (HA.out.only (O0.out.trans HO.out)).at_ j hj1
      have exn : vnAt ns j = ns[j] := by simp [vnAt, hj1]
      have HT := Lib.hid (show mkT ns (j + 1) = mkT ns j + (1 + (vnAt ns j).a % 6) * 120960 + (if 250 ≤ (vnAt ns j).c then 120960 else 0) from rfl)
      have HLS := Lib.hid (mkL_succ ns hs j)
      have HN : Hid (mkN ns hs j = ⟨mkT ns j, (1 + (vnAt ns j).a % 6) * 120960, (vnAt ns j).b % 4, (vnAt ns j).c % 3, if h : j < hs.length then 16 * hs[j].h else 0, if h : j < hs.length then 16 * hs[j].c else -1000⟩) := Lib.hid rfl
      rw [exn] at HT HN
      obtain ⟨x, hx⟩ : ∃ x, ns[j] = x := ⟨_, rfl⟩
      rw [hx] at hok a0 a1 a2 HT HN
      have tr := mkT_rng ns j
      obtain ⟨t, ht⟩ : ∃ t, mkT ns j = t := ⟨_, rfl⟩
      rw [ht] at HT HN tr ⊢
      have j0 : (0 : Int) ≤ (j : Int) := by omega
      have j1 : (j : Int) < (ns.length : Int) := by omega
      have j2 : (j : Int) < 16 := by omega
      have xa := hok.a
      have xb := hok.b
      have xc := hok.c
      have HJ := Lib.hid hlt
      clear hok hx exn ht hlt
      by_cases hh : j < hs.length
      · have j3 : (j : Int) < (hs.length : Int) := by omega
        obtain ⟨b', off', rfl, hb', c0, c1⟩ := (HB.out.only (O0.out.trans HO.out)).at_ j hh
        have hhk := HB.out.ok hs[j] (List.getElem_mem _)
        obtain ⟨y, hy⟩ : ∃ y, hs[j] = y := ⟨_, rfl⟩
        rw [hy] at c0 c1 hhk
        have HNH : Hid (mkN ns hs j = ⟨t, (1 + x.a % 6) * 120960, x.b % 4, x.c % 3, 16 * y.h, 16 * y.c⟩) := Lib.hid (by rw [HN.out, dif_pos hh, dif_pos hh, hy])
        have yh := hhk.h
        have yc := hhk.c
        clear hy hhk hh
        have O2 := Lib.hid ((HO.out.alloc (.cells #[.int .u8 x.a, .int .u8 x.b, .int .u8 x.c] 68)).alloc (ntBox ⟨t, (1 + x.a % 6) * 120960, x.b % 4, x.c % 3, 0, -1000⟩))
        have bv2 := BV.out.only O2.out (by simp)
        have r0 := bv2.cell 0
        have r1 := bv2.cell 1
        have r2 := bv2.cell 2
        simp only [List.getElem?_cons_zero, List.getElem?_cons_succ] at r0 r1 r2
        have oo := (Only.refl [] wr).alloc (.cells #[.int .u8 x.a, .int .u8 x.b, .int .u8 x.c] 68) |>.alloc (ntBox ⟨t, (1 + x.a % 6) * 120960, x.b % 4, x.c % 3, 0, -1000⟩)
        have d0 := (oo.cell (p := ⟨b', off' + j * 2, none⟩) hb' (by simp)).trans c0
        have d1 := (oo.cell (p := ⟨b', off' + j * 2 + 1, none⟩) hb' (by simp)).trans c1
        have oo2 := (Only.refl [] wr).alloc (.cells #[.int .u8 x.a, .int .u8 x.b, .int .u8 x.c] 68) |>.alloc (ntBox ⟨t, (1 + x.a % 6) * 120960, x.b % 4, x.c % 3, 16 * y.h, -1000⟩)
        have e1 := (oo2.cell (p := ⟨b', off' + j * 2 + 1, none⟩) hb' (by simp)).trans c1
        have e2 := (HBV.out.only oo2 (by simp)).cell 2
        simp only [List.getElem?_cons_zero, List.getElem?_cons_succ] at e2
        clear bv2 oo oo2
        have wy : IntKind.i64.wrap y.h = y.h := IntWalk.i64_in _ (by omega)
        have wy' : IntKind.i64.wrap y.c = y.c := IntWalk.i64_in _ (by omega)
        have wh : IntKind.i64.wrap (16 * y.h) = 16 * y.h := IntWalk.i64_in _ (by omega)
        have wc : IntKind.i64.wrap (16 * y.c) = 16 * y.c := IntWalk.i64_in _ (by omega)
        have ne1 : ¬ b' = wr.heap.size + 1 := by omega
        have ne2 : ¬ w.heap.size = wr.heap.size + 1 := by have := HO.out.size; omega
        go_wp2_with fail
        go_region
        dsimp only [Exit.then]
        have BX := Lib.hid (((Blk.new wr 68 [.int .u8 x.a, .int .u8 x.b, .int .u8 x.c]).alloc (ntBox ⟨t, (1 + x.a % 6) * 120960, x.b % 4, x.c % 3, 16 * y.h, 16 * y.c⟩)).drew)
        have BN := Lib.hid ((Blk.new (wr.alloc (.cells #[.int .u8 x.a, .int .u8 x.b, .int .u8 x.c] 68)) 42 [.int .i64 t, .int .i64 ((1 + x.a % 6) * 120960), .int .i64 (x.b % 4), .int .i64 (x.c % 3), .int .i64 (16 * y.h), .int .i64 (16 * y.c)]).drew)
        have es : (wr.alloc (.cells #[.int .u8 x.a, .int .u8 x.b, .int .u8 x.c] 68)).heap.size = wr.heap.size + 1 := by simp
        rw [es] at BN
        have O5 := Lib.hid (((HO.out.alloc (.cells #[.int .u8 x.a, .int .u8 x.b, .int .u8 x.c] 68)).alloc (ntBox ⟨t, (1 + x.a % 6) * 120960, x.b % 4, x.c % 3, 16 * y.h, 16 * y.c⟩)).drew)
        have OWQ := Lib.hid (((HOW.out.alloc (.cells #[.int .u8 x.a, .int .u8 x.b, .int .u8 x.c] 68)).alloc (ntBox ⟨t, (1 + x.a % 6) * 120960, x.b % 4, x.c % 3, 16 * y.h, 16 * y.c⟩)).drew)
        clear es
        obtain ⟨L, hL⟩ : ∃ L, (1 + x.a % 6) * 120960 = L := ⟨_, rfl⟩
        have hLr : 120960 ≤ L ∧ L ≤ 725760 := by omega
        rw [hL] at BX BN O5 HT HNH OWQ ⊢
        obtain ⟨WQ, hWQ⟩ : ∃ WQ, (((wr.alloc (.cells #[.int .u8 x.a, .int .u8 x.b, .int .u8 x.c] 68)).alloc (ntBox ⟨t, L, x.b % 4, x.c % 3, 16 * y.h, 16 * y.c⟩)).drew) = WQ := ⟨_, rfl⟩
        rw [hWQ] at BX BN O5 OWQ ⊢
        have x2 := BX.out.cell 2
        have z0 := BN.out.cell 0
        have z1 := BN.out.cell 1
        have z2 := BN.out.cell 2
        have z3 := BN.out.cell 3
        have z4 := BN.out.cell 4
        have z5 := BN.out.cell 5
        simp only [List.getElem?_cons_zero, List.getElem?_cons_succ] at x2 z0 z1 z2 z3 z4 z5
        have t1 : IntKind.i64.wrap (t + L) = t + L := IntWalk.i64_in _ (by omega)
        have t2 : IntKind.i64.wrap (t + L + 120960) = t + L + 120960 := IntWalk.i64_in _ (by omega)
        have h5 := O5.out.size
        clear hWQ hL q0 q1 q2 a0 a1 a2 c0 c1 r0 r1 r2 d0 d1 e1 e2 ne1 ne2 wh wc wy wy' hb
        by_cases c25 : 250 ≤ x.c
        · have C25 := Lib.hid c25
          have d25 : decide (250 ≤ x.c) = true := decide_eq_true c25
          go_wp2_with (at_builtin; refine wpList_append_lies _ rfl _ _ _ rfl W0.heap.size 42 i0 _ 6 48 Try.underlying27 hi0 hz0 hz1 hz2 rfl (by omega) v j _ rfl (OWQ.out.alloc _) ⟨WQ.heap.size, 0, none⟩ 1 1 [.int .i64 t, .int .i64 L, .int .i64 (x.b % 4), .int .i64 (x.c % 3), .int .i64 (16 * y.h), .int .i64 (16 * y.c)] rfl rfl (World.news_of_block (cs := #[.int .i64 t, .int .i64 L, .int .i64 (x.b % 4), .int .i64 (x.c % 3), .int .i64 (16 * y.h), .int .i64 (16 * y.c)]) (t := 42) (fr := (0, 0)) (heap_alloc_new WQ _)) (by simp [Value.oneCell']) (by omega) (by simp only [maxLen]; omega) (by omega) (by simp; omega) _ rfl ?_; intro gg cap w5 hown5 hgrow hat hlt5)
          go_roundw
          case rel =>
            refine ⟨j + 1, _, by have := HJ.out; omega, by go_num, rfl, ?_, ?_, (O5.out.alloc _).grown hgrow fun q hq => .inr (OWQ.out.lt q hq).1⟩
            · rw [HT.out, if_pos C25.out]
            · rw [HLS.out, nCells_snoc, HNH.out]
              exact hown5
          case measure => have := HJ.out; simp [intOf]; omega
        · have C25 := Lib.hid c25
          have d25 : decide (250 ≤ x.c) = false := decide_eq_false c25
          go_wp2_with (at_builtin; refine wpList_append_lies _ rfl _ _ _ rfl W0.heap.size 42 i0 _ 6 48 Try.underlying27 hi0 hz0 hz1 hz2 rfl (by omega) v j _ rfl (OWQ.out.alloc _) ⟨WQ.heap.size, 0, none⟩ 1 1 [.int .i64 t, .int .i64 L, .int .i64 (x.b % 4), .int .i64 (x.c % 3), .int .i64 (16 * y.h), .int .i64 (16 * y.c)] rfl rfl (World.news_of_block (cs := #[.int .i64 t, .int .i64 L, .int .i64 (x.b % 4), .int .i64 (x.c % 3), .int .i64 (16 * y.h), .int .i64 (16 * y.c)]) (t := 42) (fr := (0, 0)) (heap_alloc_new WQ _)) (by simp [Value.oneCell']) (by omega) (by simp only [maxLen]; omega) (by omega) (by simp; omega) _ rfl ?_; intro gg cap w5 hown5 hgrow hat hlt5)
          go_roundw
          case rel =>
            refine ⟨j + 1, _, by have := HJ.out; omega, by go_num, rfl, ?_, ?_, (O5.out.alloc _).grown hgrow fun q hq => .inr (OWQ.out.lt q hq).1⟩
            · rw [HT.out, if_neg C25.out]; simp
            · rw [HLS.out, nCells_snoc, HNH.out]
              exact hown5
          case measure => have := HJ.out; simp [intOf]; omega
      · have HNH : Hid (mkN ns hs j = ⟨t, (1 + x.a % 6) * 120960, x.b % 4, x.c % 3, 0, -1000⟩) := Lib.hid (by rw [HN.out, dif_neg hh, dif_neg hh])
        have j3 : ¬ (j : Int) < (hs.length : Int) := by omega
        have oo := (Only.refl [] wr).alloc (.cells #[.int .u8 x.a, .int .u8 x.b, .int .u8 x.c] 68) |>.alloc (ntBox ⟨t, (1 + x.a % 6) * 120960, x.b % 4, x.c % 3, 0, -1000⟩)
        have e2 := (HBV.out.only oo (by simp)).cell 2
        simp only [List.getElem?_cons_zero, List.getElem?_cons_succ] at e2
        clear oo
        have BX := Lib.hid ((Blk.new wr 68 [.int .u8 x.a, .int .u8 x.b, .int .u8 x.c]).alloc (ntBox ⟨t, (1 + x.a % 6) * 120960, x.b % 4, x.c % 3, 0, -1000⟩))
        have BN := Lib.hid (Blk.new (wr.alloc (.cells #[.int .u8 x.a, .int .u8 x.b, .int .u8 x.c] 68)) 42 [.int .i64 t, .int .i64 ((1 + x.a % 6) * 120960), .int .i64 (x.b % 4), .int .i64 (x.c % 3), .int .i64 (0), .int .i64 (-1000)])
        have es : (wr.alloc (.cells #[.int .u8 x.a, .int .u8 x.b, .int .u8 x.c] 68)).heap.size = wr.heap.size + 1 := by simp
        rw [es] at BN
        have O5 := Lib.hid ((HO.out.alloc (.cells #[.int .u8 x.a, .int .u8 x.b, .int .u8 x.c] 68)).alloc (ntBox ⟨t, (1 + x.a % 6) * 120960, x.b % 4, x.c % 3, 0, -1000⟩))
        have OWQ := Lib.hid ((HOW.out.alloc (.cells #[.int .u8 x.a, .int .u8 x.b, .int .u8 x.c] 68)).alloc (ntBox ⟨t, (1 + x.a % 6) * 120960, x.b % 4, x.c % 3, 0, -1000⟩))
        clear es
        obtain ⟨L, hL⟩ : ∃ L, (1 + x.a % 6) * 120960 = L := ⟨_, rfl⟩
        have hLr : 120960 ≤ L ∧ L ≤ 725760 := by omega
        rw [hL] at BX BN O5 HT HNH OWQ e2
        have HNEWS := Lib.hid (World.news_of_block (heap_alloc_new ((wr.alloc (.cells #[.int .u8 x.a, .int .u8 x.b, .int .u8 x.c] 68)).alloc (ntBox ⟨t, L, x.b % 4, x.c % 3, 0, -1000⟩)) (.cells #[.int .i64 t, .int .i64 L, .int .i64 (x.b % 4), .int .i64 (x.c % 3), .int .i64 0, .int .i64 (-1000)] 42)))
        rw [show ((wr.alloc (.cells #[.int .u8 x.a, .int .u8 x.b, .int .u8 x.c] 68)).alloc (ntBox ⟨t, L, x.b % 4, x.c % 3, 0, -1000⟩)).heap.size = wr.heap.size + 1 + 1 by simp] at HNEWS
        have t1 : IntKind.i64.wrap (t + L) = t + L := IntWalk.i64_in _ (by omega)
        have t2 : IntKind.i64.wrap (t + L + 120960) = t + L + 120960 := IntWalk.i64_in _ (by omega)
        have h5 := O5.out.size
        simp only [World.size_alloc] at h5
        by_cases c25 : 250 ≤ x.c
        · have C25 := Lib.hid c25
          have d25 : decide (250 ≤ x.c) = true := decide_eq_true c25
          go_wp2_with (at_builtin; refine wpList_append_lies _ rfl _ _ _ rfl W0.heap.size 42 i0 _ 6 48 Try.underlying27 hi0 hz0 hz1 hz2 rfl (by omega) v j _ rfl (OWQ.out.alloc _) ⟨wr.heap.size + 1 + 1, 0, none⟩ 1 1 [.int .i64 t, .int .i64 L, .int .i64 (x.b % 4), .int .i64 (x.c % 3), .int .i64 0, .int .i64 (-1000)] rfl rfl HNEWS.out (by simp [Value.oneCell']) (by omega) (by simp only [maxLen]; omega) (by omega) (by simp; omega) (wr.heap.size + 1 + 1 + 1) (by simp) ?_; intro gg cap w5 hown5 hgrow hat hlt5)
          go_roundw
          case rel =>
            refine ⟨j + 1, _, by have := HJ.out; omega, by go_num, rfl, ?_, ?_, (O5.out.alloc _).grown hgrow fun q hq => .inr (OWQ.out.lt q hq).1⟩
            · rw [HT.out, if_pos C25.out]
            · rw [HLS.out, nCells_snoc, HNH.out]
              exact hown5
          case measure => have := HJ.out; simp [intOf]; omega
        · have C25 := Lib.hid c25
          have d25 : decide (250 ≤ x.c) = false := decide_eq_false c25
          go_wp2_with (at_builtin; refine wpList_append_lies _ rfl _ _ _ rfl W0.heap.size 42 i0 _ 6 48 Try.underlying27 hi0 hz0 hz1 hz2 rfl (by omega) v j _ rfl (OWQ.out.alloc _) ⟨wr.heap.size + 1 + 1, 0, none⟩ 1 1 [.int .i64 t, .int .i64 L, .int .i64 (x.b % 4), .int .i64 (x.c % 3), .int .i64 0, .int .i64 (-1000)] rfl rfl HNEWS.out (by simp [Value.oneCell']) (by omega) (by simp only [maxLen]; omega) (by omega) (by simp; omega) (wr.heap.size + 1 + 1 + 1) (by simp) ?_; intro gg cap w5 hown5 hgrow hat hlt5)
          go_roundw
          case rel =>
            refine ⟨j + 1, _, by have := HJ.out; omega, by go_num, rfl, ?_, ?_, (O5.out.alloc _).grown hgrow fun q hq => .inr (OWQ.out.lt q hq).1⟩
            · rw [HT.out, if_neg C25.out]; simp
            · rw [HLS.out, nCells_snoc, HNH.out]
              exact hown5
          case measure => have := HJ.out; simp [intOf]; omega
    · have ej : j = vLen ns := by omega
      subst ej
      have w0 : IntKind.i64.wrap (o % 32 * 120960) = o % 32 * 120960 := IntWalk.i64_in _ (by omega)
      have OX := Lib.hid (O0.out.trans HO.out)
      by_cases hk1 : (vLen ns : Int) < (ns.length : Int)
      · have hk2 : ¬ (vLen ns : Int) < 16 := by unfold vLen at *; omega
        go_wp2_with fail
        go_ret2
        refine ⟨_, rfl, ⟨HOW.out.1, ?_⟩, OX.out⟩
        rcases HOW.out.2 with h | ⟨g, cap, cur, rfl, hb, hg, hr⟩
        · exact .inl h
        · exact .inr ⟨g, cap, cur, rfl, by omega, hg, hr⟩
      · go_wp2_with fail
        go_ret2
        refine ⟨_, rfl, ⟨HOW.out.1, ?_⟩, OX.out⟩
        rcases HOW.out.2 with h | ⟨g, cap, cur, rfl, hb, hg, hr⟩
        · exact .inl h
        · exact .inr ⟨g, cap, cur, rfl, by omega, hg, hr⟩
end Go.Proofs.Ytglkpoiajebleaa
