/- The quota's tree with its root alone. Condition: the tree's state. And what follows from it. -/
import Derived.Test.YtflkoabgkgegjaaDoorY13
/- The quota's tree with its root alone. Condition: the tree's state. -/
namespace Go.Proofs.YtflkoabgkgegjaaDoor
open Go.RowKit Go.Maps

theorem below_grown {a b c : World} {g : Option Nat} (h : a.grownBy b g) (hb : Below b.heap.size b c) : a.grownBy c g := ⟨hb.os.trans h.os, hb.tape.trans h.tape, hb.output.trans h.output, Nat.le_trans h.size hb.size, fun k hk hne => (hb.block k (Nat.lt_of_lt_of_le hk h.size)).trans (h.block k hk hne)⟩
/-- a block is laid anew -/
def putO (w : World) (q : Nat) (o : Obj) : World := { w with heap := w.heap.setIfInBounds q o }
theorem putO_at (w : World) (q : Nat) (o : Obj) (h : q < w.heap.size) : (putO w q o).heap[q]? = some o := by simp [putO, h]
theorem putO_other (w : World) (q x : Nat) (o : Obj) (h : x ≠ q) : (putO w q o).heap[x]? = w.heap[x]? := by simp [putO, Array.getElem?_setIfInBounds_ne (Ne.symm h)]
theorem putO_size (w : World) (q : Nat) (o : Obj) : (putO w q o).heap.size = w.heap.size := by simp [putO]
theorem putO_below {B : Nat} {a w : World} (h : Below B a w) (q : Nat) (o : Obj) (hq : B ≤ q) : Below B a (putO w q o) := ⟨h.os, h.tape, h.output, by rw [putO_size]; exact h.size, fun k hk => (putO_other w q k o (by omega)).trans (h.block k hk)⟩
/-- a tree of one factory: its limit, what was charged -/
structure QuAt (w : World) (tb qm fb : Nat) (L C : Int) : Prop where
  tree : w.heap[tb]? = some (.cells #[.map (some qm), .int .i64 1] 91 (0, 0))
  map : w.heap[qm]? = some (.map #[⟨.int .i64 0, .pointer (some ⟨fb, 0, none⟩), 0⟩] 1)
  fac : w.heap[fb]? = some (.cells #[.int .i64 L, .int .i64 C, .int .i64 0, .int .i64 (-1), .int .i64 0] 82 (0, 0))
theorem checkKey_int (b : Bool) (x : Int) (w : World) : (Instr.checkKey b 10000 3 (.int .i64 x)).run Tryd.prog w = .ok () w := by
  rw [show (10000 : Nat) = 9999 + 1 from rfl]
  unfold Instr.checkKey
  simp [go_sem, Tryd.underlying3]
theorem run_look0 {w : World} {qm fb : Nat} (h : w.heap[qm]? = some (.map #[⟨.int .i64 0, .pointer (some ⟨fb, 0, none⟩), 0⟩] 1)) :
    (Instr.lookup 89 (.map (some qm)) (.int .i64 0) false).run Tryd.prog w = .ok (.pointer (some ⟨fb, 0, none⟩)) w := by
  have h1 := Go.MapKept.run_getObj_map (P := Tryd.prog) h
  simp [Instr.lookup, go_sem, Tryd.underlying89, Tryd.underlying3, h1, checkKey_int, Instr.findKey, Instr.findNow, Instr.sameNow]
theorem run_put0 (w : World) (qm : Nat) (v : Value) (h : w.heap[qm]? = some (.map #[] 0)) :
    (Instr.mapUpdate 89 (.map (some qm)) (.int .i64 0) v).run Tryd.prog w = .ok () { w with heap := w.heap.setIfInBounds qm (.map #[⟨.int .i64 0, v, 0⟩] 1) } := by
  have h1 := Go.MapKept.run_getObj_map (P := Tryd.prog) h
  simp [Instr.mapUpdate, go_sem, Tryd.underlying89, Tryd.underlying3, h1, checkKey_int, Instr.findKey, Instr.findNow, Instr.sameNow, setObj, Sem.run, h]
section
variable {tb qm fb : Nat} {L C : Int} {w w' : World}
theorem QuAt.below (h : QuAt w tb qm fb L C) (hb : Below w.heap.size w w') : QuAt w' tb qm fb L C := by
  have hm : qm < w.heap.size := by
    have := h.map
    rcases Nat.lt_or_ge qm w.heap.size with q | q
    · exact q
    · rw [Array.getElem?_eq_none q] at this; cases this
  exact ⟨(hb.block _ (blt h.tree)).trans h.tree, (hb.block _ hm).trans h.map, (hb.block _ (blt h.fac)).trans h.fac⟩
set_option maxRecDepth 100000 in
theorem qat (h : QuAt w tb qm fb L C) : Calls Tryd.prog 37 #[.pointer (some ⟨tb, 0, none⟩), .int .i64 0] w fun e w' => e = .returned (.tuple #[.pointer (some ⟨fb, 0, none⟩), .int .i64 0]) ∧ w' = w := by
  have t0 : w.cell? ⟨tb, 0, none⟩ = some (.map (some qm)) := (cell_of_row _ _ 0 _ _ _ h.tree).trans rfl
  have r0 := run_look0 h.map
  clear h
  go_enter Tryd.func37, Tryd.ntmps37
  go_wp2
  go_ret2
  exact ⟨rfl, rfl⟩
theorem QuAt.f0 (h : QuAt w tb qm fb L C) : w.cell? ⟨fb, 0, none⟩ = some (.int .i64 L) := (cell_of_row _ _ 0 _ _ _ h.fac).trans rfl
theorem QuAt.f1 (h : QuAt w tb qm fb L C) : w.cell? ⟨fb, 1, none⟩ = some (.int .i64 C) := (cell_of_row _ _ 1 _ _ _ h.fac).trans rfl
theorem QuAt.f2 (h : QuAt w tb qm fb L C) : w.cell? ⟨fb, 2, none⟩ = some (.int .i64 0) := (cell_of_row _ _ 2 _ _ _ h.fac).trans rfl
theorem QuAt.froz (h : QuAt w tb qm fb L C) (i : Nat) : w.frozen? ⟨fb, i, none⟩ = false := frozen_of_row _ _ _ _ _ h.fac
/-- what was charged turns -/
theorem QuAt.set (h : QuAt w tb qm fb L C) (C' : Int) : QuAt (w.setCell ⟨fb, 1, none⟩ (.int .i64 C')) tb qm fb L C' := by
  have hm : qm ≠ fb := fun e => by
    have h1 := h.map
    have h2 := h.fac
    rw [e, h2] at h1
    cases h1
  refine ⟨(Below.heap_setCell w _ _ tb (fun e => ?_)).trans h.tree, (Below.heap_setCell w _ _ qm hm).trans h.map, heap_setCell_same w fb 1 _ _ _ h.fac⟩
  have h1 := h.tree
  have h2 := h.fac
  simp only at e
  rw [e, h2] at h1
  injection h1 with h1
  injection h1 with h1 h3
  revert h3
  decide
set_option maxRecDepth 100000 in
theorem qsum (a b : Nat) (B : Nat) (w : World) (ha : a ≤ 1073741824) (hb : b ≤ 1073741824) (cap : Nat) (x y z : Int) (hx : x = (a : Int)) (hy : y = (b : Int)) (hz : z = ((a + b : Nat) : Int)) (h0 : w.cell? ⟨B, 0, none⟩ = some (.int .i64 x)) (h1 : w.cell? ⟨B, 1, none⟩ = some (.int .i64 y)) :
    Calls Tryd.prog 57 #[.slice (some ⟨B, 0, none⟩) 2 cap] w fun e w' => e = .returned (.int .i64 z) ∧ w' = w := by
  have z1 : IntKind.i64.wrap (0 + x) = x := by rw [IntKind.wrap_i64]; omega
  have z2 : IntKind.i64.wrap (x + y) = z := by rw [IntKind.wrap_i64]; omega
  have z1' : IntKind.i64.wrap x = x := by rw [IntKind.wrap_i64]; omega
  clear ha hb hx hy hz
  go_enter Tryd.func57, Tryd.ntmps57
  go_wp2
  refine wp_loop_rounds 3 ?_
  rw [rounds_succ]
  go_wp2
  rw [rounds_succ]
  go_wp2
  rw [rounds_succ]
  go_wp2
  go_ret
  exact ⟨rfl, rfl⟩
end
end Go.Proofs.YtflkoabgkgegjaaDoor
/- Charge, Refund, Use of the quota's root; a new tree. Condition: the tree's state. -/
namespace Go.Proofs.YtflkoabgkgegjaaDoor
open Go.RowKit Go.Maps
theorem cellNew (w : World) (cs : Array Value) (t : TypeId) (i : Nat) (v : Value) (h : cs[i]? = some v) : (w.alloc (.cells cs t)).drew.cell? ⟨w.heap.size, i, none⟩ = some v := by
  show (w.alloc (.cells cs t)).cell? _ = _
  rw [World.cell?_alloc_new]
  exact h
section
variable {tb qm fb : Nat} {w w' : World}
set_option maxRecDepth 100000 in
theorem quse {l c : Nat} (h : QuAt w tb qm fb (l : Int) (c : Int)) (hc : c ≤ 1073741824) (C : Int) (hC : (c : Int) = C) : Calls Tryd.prog 38 #[.pointer (some ⟨fb, 0, none⟩)] w fun e w' => e = .returned (.int .i64 C) ∧ Below w.heap.size w w' := by
  have f1 : w.cell? ⟨fb, 1, none⟩ = some (.int .i64 C) := by rw [← hC]; exact h.f1
  have f2 := h.f2
  have HC := Lib.hid hC
  have HL := Lib.hid hc
  clear h hC hc
  go_enter Tryd.func38, Tryd.ntmps38
  go_wp2_with fail
  go_region_law (first | (go_simp; go_at_call 57; (with_reducible refine (qsum c 0 _ _ HL.out (by omega) 2 C 0 C HC.out.symm rfl (by rw [Nat.add_zero]; exact HC.out.symm) (cellNew _ _ _ 0 _ rfl) (cellNew _ _ _ 1 _ rfl)).mono ?_); rintro e w8 ⟨rfl, rfl⟩))
  all_goals
    go_wp2
    go_ret
    exact ⟨rfl, ((Below.refl _ _).alloc (Nat.le_refl _) _).drew⟩
set_option maxRecDepth 100000 in
theorem qfits {l c : Nat} (h : QuAt w tb qm fb (l : Int) (c : Int)) (hc : c ≤ l) (hl : l ≤ 1073741824) (x : Int) (B : Bool) (hB : decide (x ≤ (l : Int) - (c : Int)) = B) : Calls Tryd.prog 48 #[.pointer (some ⟨fb, 0, none⟩), .int .i64 x] w fun e w' => e = .returned (.bool B) ∧ Below w.heap.size w w' := by
  obtain ⟨C, hC⟩ : ∃ C : Int, (c : Int) = C := ⟨_, rfl⟩
  obtain ⟨L, hL⟩ : ∃ L : Int, (l : Int) = L := ⟨_, rfl⟩
  have f0 : w.cell? ⟨fb, 0, none⟩ = some (.int .i64 L) := by rw [← hL]; exact h.f0
  have HH := Lib.hid h
  have HC := Lib.hid hC
  have HL := Lib.hid hL
  have hc2 : Hid (c ≤ 1073741824) := Lib.hid (by omega)
  have z1 : IntKind.i64.wrap (L - C) = L - C := by rw [IntKind.wrap_i64]; omega
  have t1 : decide (x ≤ L - C) = B := by rw [← hC, ← hL]; exact hB
  clear h hC hL hc hl hB
  go_enter Tryd.func48, Tryd.ntmps48
  go_wp2_with fail
  have hd := HH.out.below (Below.refl _ _).drew
  go_region_held3 (fun w' => w'.cell? ⟨fb, 0, none⟩ = some (.int .i64 L)) (first | (rw [← HL.out]; exact QuAt.f0 (by assumption))) (first | (go_at_call 38; (with_reducible refine (quse (by assumption) hc2.out C HC.out).mono ?_); rintro e w8 ⟨rfl, h8⟩; have h9 := QuAt.below (by assumption) h8))
  all_goals
    have HB := Lib.hid ((Below.refl w.heap.size w).drew.trans (h8.mono (Nat.le_refl _)))
    clear hd h8 h9
    go_wp2
    go_ret
    exact ⟨rfl, HB.out⟩
set_option maxRecDepth 100000 in
theorem qcharge_no {l c : Nat} (h : QuAt w tb qm fb (l : Int) (c : Int)) (hc : c ≤ l) (hl : l ≤ 1073741824) (n : Nat) (hn : l < c + n) (N : Int) (hN : N = (n : Int)) : Calls Tryd.prog 26 #[.pointer (some ⟨tb, 0, none⟩), .int .i64 0, .int .i64 N] w fun e w' => e = .returned (.int .i64 5) ∧ Below w.heap.size w w' := by
  have HH := Lib.hid h
  have HC : Hid (c ≤ l ∧ l ≤ 1073741824) := Lib.hid ⟨hc, hl⟩
  have HB : Hid (decide (N ≤ (l : Int) - (c : Int)) = false) := Lib.hid (decide_eq_false (by omega))
  have t0 : decide (N < 0) = false := decide_eq_false (by omega)
  clear h hc hl hn hN
  go_enter Tryd.func26, Tryd.ntmps26
  go_wp2_with fail
  refine (qat HH.out).mono ?_
  rintro e w' ⟨rfl, rfl⟩
  go_wp2_with fail
  refine (qfits HH.out HC.out.1 HC.out.2 N false HB.out).mono ?_
  rintro e w2 ⟨rfl, hb⟩
  have HW := Lib.hid hb
  clear hb
  go_wp2
  go_ret
  exact ⟨rfl, HW.out⟩
set_option maxRecDepth 100000 in
theorem qcharge_yes {l c : Nat} (h : QuAt w tb qm fb (l : Int) (c : Int)) (hl : l ≤ 1073741824) (n : Nat) (hn : c + n ≤ l) (N : Int) (hN : N = (n : Int)) : Calls Tryd.prog 26 #[.pointer (some ⟨tb, 0, none⟩), .int .i64 0, .int .i64 N] w fun e w' => e = .returned (.int .i64 0) ∧ QuAt w' tb qm fb (l : Int) ((c + n : Nat) : Int) ∧ w.grownBy w' (some fb) := by
  obtain ⟨C, hC⟩ : ∃ C : Int, (c : Int) = C := ⟨_, rfl⟩
  obtain ⟨D, hD⟩ : ∃ D : Int, ((c + n : Nat) : Int) = D := ⟨_, rfl⟩
  have HH := Lib.hid h
  have HC : Hid (c ≤ l ∧ l ≤ 1073741824) := Lib.hid ⟨by omega, hl⟩
  have HB : Hid (decide (N ≤ (l : Int) - (c : Int)) = true) := Lib.hid (decide_eq_true (by omega))
  have t0 : decide (N < 0) = false := decide_eq_false (by omega)
  have z1 : IntKind.i64.wrap (C + N) = D := by rw [IntKind.wrap_i64]; omega
  have HCC := Lib.hid hC
  rw [hD]
  clear h hl hn hN hC hD
  go_enter Tryd.func26, Tryd.ntmps26
  go_wp2_with fail
  refine (qat HH.out).mono ?_
  rintro e w' ⟨rfl, rfl⟩
  go_wp2_with fail
  refine (qfits HH.out HC.out.1 HC.out.2 N true HB.out).mono ?_
  rintro e w2 ⟨rfl, hb⟩
  have HW := Lib.hid hb
  have H2 := Lib.hid (HH.out.below hb)
  have f1 : w2.cell? ⟨fb, 1, none⟩ = some (.int .i64 C) := by rw [← HCC.out]; exact H2.out.f1
  have fz := H2.out.froz 1
  clear hb
  go_wp2
  go_ret
  exact ⟨rfl, H2.out.set D, gb_set (below_grown (World.grownBy.refl _ _) HW.out) _ _⟩
set_option maxRecDepth 100000 in
theorem qrefund {l c : Nat} (h : QuAt w tb qm fb (l : Int) (c : Int)) (hc : c ≤ 1073741824) (n : Nat) (hn : n ≤ c) (N : Int) (hN : N = (n : Int)) : Calls Tryd.prog 28 #[.pointer (some ⟨tb, 0, none⟩), .int .i64 0, .int .i64 N] w fun e w' => e = .returned (.int .i64 0) ∧ QuAt w' tb qm fb (l : Int) ((c - n : Nat) : Int) ∧ w.grownBy w' (some fb) := by
  obtain ⟨C, hC⟩ : ∃ C : Int, (c : Int) = C := ⟨_, rfl⟩
  obtain ⟨D, hD⟩ : ∃ D : Int, ((c - n : Nat) : Int) = D := ⟨_, rfl⟩
  have HH := Lib.hid h
  have t0 : decide (N < 0) = false := decide_eq_false (by omega)
  have t1 : decide (C < N) = false := decide_eq_false (by omega)
  have z1 : IntKind.i64.wrap (C - N) = D := by rw [IntKind.wrap_i64]; omega
  have f1 : w.cell? ⟨fb, 1, none⟩ = some (.int .i64 C) := by rw [← hC]; exact h.f1
  have fz := h.froz 1
  rw [hD]
  clear h hc hn hN hC hD
  go_enter Tryd.func28, Tryd.ntmps28
  go_wp2_with fail
  refine (qat HH.out).mono ?_
  rintro e w' ⟨rfl, hw⟩
  have hw2 := hw.symm
  clear hw
  subst hw2
  go_wp2
  go_ret
  exact ⟨rfl, HH.out.set D, gb_set (World.grownBy.refl _ _) _ _⟩
set_option maxRecDepth 100000 in
theorem quse_any {l c : Nat} (h : QuAt w tb qm fb (l : Int) (c : Int)) (hc : c ≤ 1073741824) (C : Int) (hC : (c : Int) = C) : Calls Tryd.prog 14 #[.pointer (some ⟨tb, 0, none⟩), .int .i64 0] w fun e w' => e = .returned (.int .i64 C) ∧ Below w.heap.size w w' := by
  have HH := Lib.hid h
  have HC := Lib.hid hc
  have HCC := Lib.hid hC
  clear h hc hC
  go_enter Tryd.func14, Tryd.ntmps14
  go_wp2_with fail
  refine (qat HH.out).mono ?_
  rintro e w' ⟨rfl, hw⟩
  have hw2 := hw.symm
  clear hw
  subst hw2
  go_wp2_with fail
  refine (quse HH.out HC.out C HCC.out).mono ?_
  rintro e w2 ⟨rfl, hb⟩
  have HW := Lib.hid hb
  clear hb
  go_wp2
  go_ret
  exact ⟨rfl, HW.out⟩
end
/-- the world that a new tree leaves -/
def qnewW (w : World) (L : Int) : World := (putO ((w.alloc (.map #[] 0)).alloc (.cells #[.int .i64 L, .int .i64 0, .int .i64 0, .int .i64 (-1), .int .i64 0] 82)) w.heap.size (.map #[⟨.int .i64 0, .pointer (some ⟨w.heap.size + 1, 0, none⟩), 0⟩] 1)).alloc (.cells #[.map (some w.heap.size), .int .i64 1] 91)
theorem qnewW_at (w : World) (L : Int) : QuAt (qnewW w L) (w.heap.size + 1 + 1) w.heap.size (w.heap.size + 1) L 0 ∧ Below w.heap.size w (qnewW w L) := by
  have e0 := heap_alloc_new w (.map #[] 0)
  have e1 := heap_alloc_new (w.alloc (.map #[] 0)) (.cells #[.int .i64 L, .int .i64 0, .int .i64 0, .int .i64 (-1), .int .i64 0] 82)
  have b1 : Below w.heap.size w (w.alloc (.map #[] 0)) := (Below.refl _ w).alloc (Nat.le_refl _) _
  have b2 : Below w.heap.size w ((w.alloc (.map #[] 0)).alloc (.cells #[.int .i64 L, .int .i64 0, .int .i64 0, .int .i64 (-1), .int .i64 0] 82)) := b1.alloc b1.size _
  have s2 : ((w.alloc (.map #[] 0)).alloc (.cells #[.int .i64 L, .int .i64 0, .int .i64 0, .int .i64 (-1), .int .i64 0] 82)).heap.size = w.heap.size + 1 + 1 := by rw [World.size_alloc, World.size_alloc]
  rw [World.size_alloc] at e1
  unfold qnewW
  generalize (w.alloc (.map #[] 0)).alloc (.cells #[.int .i64 L, .int .i64 0, .int .i64 0, .int .i64 (-1), .int .i64 0] 82) = w2 at e1 b2 s2 ⊢
  have b3 := putO_below b2 w.heap.size (.map #[⟨.int .i64 0, .pointer (some ⟨w.heap.size + 1, 0, none⟩), 0⟩] 1) (Nat.le_refl _)
  have b4 := (Below.refl _ (putO w2 w.heap.size (.map #[⟨.int .i64 0, .pointer (some ⟨w.heap.size + 1, 0, none⟩), 0⟩] 1))).alloc (Nat.le_refl _) (.cells #[.map (some w.heap.size), .int .i64 1] 91)
  have e4 := heap_alloc_new (putO w2 w.heap.size (.map #[⟨.int .i64 0, .pointer (some ⟨w.heap.size + 1, 0, none⟩), 0⟩] 1)) (.cells #[.map (some w.heap.size), .int .i64 1] 91)
  rw [putO_size, s2] at e4
  refine ⟨⟨e4, (b4.block _ (by rw [putO_size]; omega)).trans (putO_at _ _ _ (by omega)), (b4.block _ (by rw [putO_size]; omega)).trans ((putO_other _ _ _ _ (by omega)).trans e1)⟩, b3.trans (b4.mono b3.size)⟩
set_option maxRecDepth 100000 in
theorem qnew (l : Nat) (hl : l ≤ 1073741824) (L : Int) (hL : (l : Int) = L) (w : World) : Calls Tryd.prog 21 #[.int .i64 L] w fun e w' => ∃ tb qm fb, e = .returned (.pointer (some ⟨tb, 0, none⟩)) ∧ w.heap.size ≤ qm ∧ w.heap.size ≤ fb ∧ w.heap.size ≤ tb ∧ QuAt w' tb qm fb (l : Int) 0 ∧ Below w.heap.size w w' := by
  have t0 : decide (L < 0) = false := decide_eq_false (by omega)
  have t1 : decide (1073741824 < L) = false := decide_eq_false (by omega)
  have hmm := @run_makeMap Tryd.prog
  have hput := run_put0 ((w.alloc (.map #[] 0)).alloc (.cells #[.int .i64 L, .int .i64 0, .int .i64 0, .int .i64 (-1), .int .i64 0] 82)) w.heap.size (.pointer (some ⟨w.heap.size + 1, 0, none⟩)) (by
    exact (((Below.refl _ (w.alloc (.map #[] 0))).alloc (Nat.le_refl _) _).block w.heap.size (by rw [World.size_alloc]; omega)).trans (heap_alloc_new w _))
  have HL := Lib.hid hL
  clear hl hL
  go_enter Tryd.func21, Tryd.ntmps21
  go_wp2
  go_ret
  have hw := qnewW_at w L
  refine ⟨_, w.heap.size, w.heap.size + 1, rfl, Nat.le_refl _, Nat.le_succ _, by omega, ?_, hw.2⟩
  rw [HL.out]
  exact hw.1
end Go.Proofs.YtflkoabgkgegjaaDoor
