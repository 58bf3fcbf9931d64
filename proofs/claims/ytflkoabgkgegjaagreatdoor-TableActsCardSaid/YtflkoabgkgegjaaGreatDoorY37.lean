/- The reference's tree of one factory. Condition: its rows are read. And what follows from it. -/
import Derived.Test.YtflkoabgkgegjaaGreatDoorY36
/- The reference's tree of one factory. Condition: its rows are read. -/
namespace Go.Proofs.YtflkoabgkgegjaaGreatDoor
open Go.RowKit Go.Maps

structure QR (w : World) (rt fq : Nat) (L C : Int) : Prop where
  tree : w.heap[rt]? = some (.cells #[.slice (some ⟨fq, 0, none⟩) 1 1, .int .i64 1] 104 (0, 0))
  fac : w.heap[fq]? = some (.cells #[.int .i64 0, .int .i64 (-1), .int .i64 L, .int .i64 C] 101 (0, 0))
section
variable {rt fq : Nat} {L C : Int} {w w' : World}
theorem QR.below (h : QR w rt fq L C) (hb : Below w.heap.size w w') : QR w' rt fq L C := ⟨(hb.block _ (blt h.tree)).trans h.tree, (hb.block _ (blt h.fac)).trans h.fac⟩
theorem QR.keep (h : QR w rt fq L C) (hk : KeepP w w') : QR w' rt fq L C := ⟨hk _ _ _ h.tree ⟨⟨by decide, by decide, by decide⟩, by decide, by decide⟩, hk _ _ _ h.fac ⟨⟨by decide, by decide, by decide⟩, by decide, by decide⟩⟩
theorem QR.turned {ok : Nat → Prop} (h : QR w rt fq L C) (hr : RT ok w w') : QR w' rt fq L C := ⟨hr.keep _ _ _ h.tree (by decide) (by decide), hr.keep _ _ _ h.fac (by decide) (by decide)⟩
theorem QR.t0 (h : QR w rt fq L C) : w.cell? ⟨rt, 0, none⟩ = some (.slice (some ⟨fq, 0, none⟩) 1 1) := (cell_of_row _ _ 0 _ _ _ h.tree).trans rfl
theorem QR.f0 (h : QR w rt fq L C) : w.cell? ⟨fq, 0, none⟩ = some (.int .i64 0) := (cell_of_row _ _ 0 _ _ _ h.fac).trans rfl
theorem QR.f1 (h : QR w rt fq L C) : w.cell? ⟨fq, 1, none⟩ = some (.int .i64 (-1)) := (cell_of_row _ _ 1 _ _ _ h.fac).trans rfl
theorem QR.f2 (h : QR w rt fq L C) : w.cell? ⟨fq, 2, none⟩ = some (.int .i64 L) := (cell_of_row _ _ 2 _ _ _ h.fac).trans rfl
theorem QR.f3 (h : QR w rt fq L C) : w.cell? ⟨fq, 3, none⟩ = some (.int .i64 C) := (cell_of_row _ _ 3 _ _ _ h.fac).trans rfl
theorem QR.froz (h : QR w rt fq L C) (i : Nat) : w.frozen? ⟨fq, i, none⟩ = false := frozen_of_row _ _ _ _ _ h.fac
theorem QR.set (h : QR w rt fq L C) (C' : Int) : QR (w.setCell ⟨fq, 3, none⟩ (.int .i64 C')) rt fq L C' :=
  ⟨(Below.heap_setCell w _ _ rt (fun e => two_types h.tree h.fac (by decide) e)).trans h.tree, heap_setCell_same w fq 3 _ _ _ h.fac⟩
set_option maxRecDepth 100000 in
theorem rqat (h : QR w rt fq L C) : Calls Tryz.prog 56 #[.pointer (some ⟨rt, 0, none⟩), .int .i64 0] w fun e w' => e = .returned (.int .i64 0) ∧ w' = w := by
  have t0 := h.t0
  have f0 := h.f0
  clear h
  go_enter Tryz.func56, Tryz.ntmps56
  go_wp2
  refine wp_loop_rounds 1 ?_
  rw [rounds_succ]
  go_wp2
  go_ret
  exact ⟨rfl, rfl⟩
set_option maxRecDepth 100000 in
theorem rquse (h : QR w rt fq L C) : Calls Tryz.prog 19 #[.pointer (some ⟨rt, 0, none⟩), .int .i64 0] w fun e w' => e = .returned (.tuple #[.int .i64 C, .int .i64 0]) ∧ w' = w := by
  have t0 := h.t0
  have f1 := h.f1
  have f3 := h.f3
  have H := Lib.hid h
  clear h
  go_enter Tryz.func19, Tryz.ntmps19
  go_wp2_with fail
  refine (rqat H.out).mono ?_
  rintro e w' ⟨rfl, hw⟩
  have hw2 := hw.symm
  clear hw
  subst hw2
  go_wp2
  refine wp_loop_rounds 2 ?_
  rw [rounds_succ]
  go_wp2
  rw [rounds_succ]
  go_wp2
  go_ret2
  exact ⟨rfl, rfl⟩
end
section
variable {rt fq l c : Nat} {w w' : World}
set_option maxRecDepth 100000 in
theorem rqfits (h : QR w rt fq (l : Int) (c : Int)) (hc : c ≤ l) (hl : l ≤ 1073741824) (x : Int) (B : Bool) (hB : decide (x ≤ (l : Int) - (c : Int)) = B) : Calls Tryz.prog 76 #[.pointer (some ⟨rt, 0, none⟩), .int .i64 0, .int .i64 x] w fun e w' => e = .returned (.bool B) ∧ Below w.heap.size w w' := by
  obtain ⟨C, hC⟩ : ∃ C : Int, (c : Int) = C := ⟨_, rfl⟩
  obtain ⟨L, hL⟩ : ∃ L : Int, (l : Int) = L := ⟨_, rfl⟩
  have z1 : IntKind.i64.wrap (L - C) = L - C := by rw [IntKind.wrap_i64]; omega
  have t1 : decide (x ≤ L - C) = B := by rw [← hC, ← hL]; exact hB
  rw [hC, hL] at h
  have H := Lib.hid h
  clear h hC hL hc hl hB
  go_enter Tryz.func76, Tryz.ntmps76
  go_wp2_with fail
  refine (rquse H.out).mono ?_
  rintro e w' ⟨rfl, hw⟩
  have hw2 := hw.symm
  clear hw
  subst hw2
  go_wp2_with fail
  have hd := H.out.below (Below.refl _ _).drew
  have c0 := H.out.t0
  have c2 := H.out.f2
  go_region_held3 (fun w' => w'.cell? ⟨rt, 0, none⟩ = some (.slice (some ⟨fq, 0, none⟩) 1 1) ∧ w'.cell? ⟨fq, 2, none⟩ = some (.int .i64 L)) (first | (exact ⟨QR.t0 (by assumption), QR.f2 (by assumption)⟩)) (first | (go_at_call 56; (with_reducible refine (rqat (by assumption)).mono ?_); rintro e w8 ⟨rfl, rfl⟩))
  all_goals
    go_wp2
    go_ret
    exact ⟨rfl, (Below.refl _ _).drew⟩
set_option maxRecDepth 100000 in
theorem rqcharge_no (h : QR w rt fq (l : Int) (c : Int)) (hc : c ≤ l) (hl : l ≤ 1073741824) (n : Nat) (hn : l < c + n) (N : Int) (hN : N = (n : Int)) : Calls Tryz.prog 52 #[.pointer (some ⟨rt, 0, none⟩), .int .i64 0, .int .i64 N] w fun e w' => e = .returned (.int .i64 5) ∧ Below w.heap.size w w' := by
  have H := Lib.hid h
  have HF := Lib.hid (rqfits h hc hl N false (decide_eq_false (by omega)))
  have t0 : decide (N < 0) = false := decide_eq_false (by omega)
  clear h hc hl hn hN
  go_enter Tryz.func52, Tryz.ntmps52
  go_wp2_with fail
  refine (rqat H.out).mono ?_
  rintro e w' ⟨rfl, hw⟩
  have hw2 := hw.symm
  clear hw
  subst hw2
  go_wp2_with fail
  refine HF.out.mono ?_
  rintro e w2 ⟨rfl, hb⟩
  have HB := Lib.hid hb
  clear hb
  go_wp2
  go_ret
  exact ⟨rfl, HB.out⟩
set_option maxRecDepth 100000 in
theorem rqcharge_yes (h : QR w rt fq (l : Int) (c : Int)) (hl : l ≤ 1073741824) (n : Nat) (hn : c + n ≤ l) (N : Int) (hN : N = (n : Int)) : Calls Tryz.prog 52 #[.pointer (some ⟨rt, 0, none⟩), .int .i64 0, .int .i64 N] w fun e w' => e = .returned (.int .i64 0) ∧ QR w' rt fq (l : Int) ((c + n : Nat) : Int) ∧ w.grownBy w' (some fq) := by
  have HF := Lib.hid (rqfits h (by omega) hl N true (decide_eq_true (by omega)))
  obtain ⟨C, hC⟩ : ∃ C : Int, (c : Int) = C := ⟨_, rfl⟩
  obtain ⟨L, hL⟩ : ∃ L : Int, (l : Int) = L := ⟨_, rfl⟩
  obtain ⟨D, hD⟩ : ∃ D : Int, ((c + n : Nat) : Int) = D := ⟨_, rfl⟩
  have z1 : IntKind.i64.wrap (C + N) = D := by rw [IntKind.wrap_i64]; omega
  have t0 : decide (N < 0) = false := decide_eq_false (by omega)
  rw [hC, hL] at h
  rw [hD, hL]
  have H := Lib.hid h
  clear h hl hn hN hC hL hD
  go_enter Tryz.func52, Tryz.ntmps52
  go_wp2_with fail
  refine (rqat H.out).mono ?_
  rintro e w' ⟨rfl, hw⟩
  have hw2 := hw.symm
  clear hw
  subst hw2
  go_wp2_with fail
  refine HF.out.mono ?_
  rintro e w2 ⟨rfl, hb⟩
  have HB := Lib.hid hb
  have H2 := Lib.hid (H.out.below hb)
  have HD := Lib.hid ((H.out.below hb).below (Below.refl _ _).drew)
  have c0 : w2.drew.cell? ⟨rt, 0, none⟩ = some (.slice (some ⟨fq, 0, none⟩) 1 1) := HD.out.t0
  have c3 : w2.drew.cell? ⟨fq, 3, none⟩ = some (.int .i64 C) := HD.out.f3
  have fz : w2.drew.frozen? ⟨fq, 3, none⟩ = false := HD.out.froz 3
  clear hb
  go_wp2_with fail
  go_region_law (fail)
  all_goals
    go_wp2
    go_ret
    exact ⟨rfl, HD.out.set D, gb_set (below_grown (below_grown (World.grownBy.refl _ _) HB.out) (Below.refl _ _).drew) _ _⟩
set_option maxRecDepth 100000 in
theorem rqrefund (h : QR w rt fq (l : Int) (c : Int)) (hc : c ≤ 1073741824) (n : Nat) (hn : n ≤ c) (N : Int) (hN : N = (n : Int)) : Calls Tryz.prog 54 #[.pointer (some ⟨rt, 0, none⟩), .int .i64 0, .int .i64 N] w fun e w' => e = .returned (.int .i64 0) ∧ QR w' rt fq (l : Int) ((c - n : Nat) : Int) ∧ w.grownBy w' (some fq) := by
  obtain ⟨C, hC⟩ : ∃ C : Int, (c : Int) = C := ⟨_, rfl⟩
  obtain ⟨L, hL⟩ : ∃ L : Int, (l : Int) = L := ⟨_, rfl⟩
  obtain ⟨D, hD⟩ : ∃ D : Int, ((c - n : Nat) : Int) = D := ⟨_, rfl⟩
  have z1 : IntKind.i64.wrap (C - N) = D := by rw [IntKind.wrap_i64]; omega
  have t0 : decide (N < 0) = false := decide_eq_false (by omega)
  have t1 : decide (C < N) = false := decide_eq_false (by omega)
  rw [hC, hL] at h
  rw [hD, hL]
  have H := Lib.hid h
  have HD := Lib.hid (h.below (Below.refl _ _).drew)
  have a0 := h.t0
  have a3 := h.f3
  have c0 : w.drew.cell? ⟨rt, 0, none⟩ = some (.slice (some ⟨fq, 0, none⟩) 1 1) := HD.out.t0
  have c3 : w.drew.cell? ⟨fq, 3, none⟩ = some (.int .i64 C) := HD.out.f3
  have fz : w.drew.frozen? ⟨fq, 3, none⟩ = false := HD.out.froz 3
  clear h hc hn hN hC hL hD
  go_enter Tryz.func54, Tryz.ntmps54
  go_wp2_with fail
  refine (rqat H.out).mono ?_
  rintro e w' ⟨rfl, hw⟩
  have hw2 := hw.symm
  clear hw
  subst hw2
  go_wp2_with fail
  go_region_law (fail)
  all_goals
    go_wp2
    go_ret
    exact ⟨rfl, HD.out.set D, gb_set (below_grown (World.grownBy.refl _ _) (Below.refl _ _).drew) _ _⟩
end
set_option maxRecDepth 100000 in
theorem rqnew (L : Int) (w : World) : Calls Tryz.prog 45 #[.int .i64 L] w fun e w' => ∃ rt fq, e = .returned (.pointer (some ⟨rt, 0, none⟩)) ∧ w.heap.size ≤ rt ∧ w.heap.size ≤ fq ∧ QR w' rt fq L 0 ∧ Below w.heap.size w w' := by
  go_enter Tryz.func45, Tryz.ntmps45
  go_wp2
  go_ret
  have e1 := heap_alloc_new w (.cells #[.int .i64 0, .int .i64 (-1), .int .i64 L, .int .i64 0] 101)
  have b1 : Below w.heap.size w (w.alloc (.cells #[.int .i64 0, .int .i64 (-1), .int .i64 L, .int .i64 0] 101)) := (Below.refl _ w).alloc (Nat.le_refl _) _
  have e2 := heap_alloc_new (w.alloc (.cells #[.int .i64 0, .int .i64 (-1), .int .i64 L, .int .i64 0] 101)) (.cells #[.slice (some ⟨w.heap.size, 0, none⟩) 1 1, .int .i64 1] 104)
  have b2 : Below (w.alloc (.cells #[.int .i64 0, .int .i64 (-1), .int .i64 L, .int .i64 0] 101)).heap.size (w.alloc (.cells #[.int .i64 0, .int .i64 (-1), .int .i64 L, .int .i64 0] 101)) ((w.alloc (.cells #[.int .i64 0, .int .i64 (-1), .int .i64 L, .int .i64 0] 101)).alloc (.cells #[.slice (some ⟨w.heap.size, 0, none⟩) 1 1, .int .i64 1] 104)) := (Below.refl _ _).alloc (Nat.le_refl _) _
  rw [World.size_alloc] at e2
  refine ⟨_, w.heap.size, rfl, ?_, Nat.le_refl _, ⟨e2, (b2.block _ (blt e1)).trans e1⟩, b1.trans (b2.mono b1.size)⟩
  simp
end Go.Proofs.YtflkoabgkgegjaaGreatDoor
/- The reference's pool: Cost, Get. Condition: its rows are read. -/
namespace Go.Proofs.YtflkoabgkgegjaaGreatDoor
open Go.RowKit Go.Maps

/-- blocks that are none of a pool's turn, or come -/
inductive RY (B : Nat) : World → World → Prop
  | refl (w : World) : RY B w w
  | turn {w w1 w2 : World} {x : Nat} : RY B w w1 → (∃ cs t, w1.heap[x]? = some (.cells cs t (0, 0)) ∧ FreeT t) → B ≤ x → w1.grownBy w2 (some x) → RY B w w2
  | more {w w1 w2 : World} : RY B w w1 → Below w1.heap.size w1 w2 → RY B w w2
theorem RY.trans {B : Nat} {a b c : World} (h1 : RY B a b) (h2 : RY B b c) : RY B a c := by
  induction h2 with
  | refl => exact h1
  | turn _ h3 h4 h5 ih => exact .turn ih h3 h4 h5
  | more _ h3 ih => exact .more ih h3
theorem RY.of_rt {ok : Nat → Prop} {B : Nat} {w w' : World} (h : RT ok w w') (hok : ∀ x, ok x → B ≤ x) : RY B w w' := by
  induction h with
  | refl => exact .refl _
  | step _ hx hb hg ih =>
    obtain ⟨cs, t, h1, h2⟩ := hx
    refine .turn ih ⟨cs, t, h1, ?_⟩ (hok _ hb) hg
    rcases h2 with rfl | rfl
    · unfold FreeT; decide
    · unfold FreeT; decide
section
variable {W w w' : World} {pb tb qm fb ga gb b : Nat} {c : Nat → Nat} {xb at_ L n : Nat} {l : List Tl} {P : Nat → List Pg} {f : Nat → Nat} {C : Nat} {lf A B : Nat → Nat}
theorem PL.ry (h : PL W w pb tb qm fb ga gb b c L n l P f C) (hr : RY W.heap.size w w') : PL W w' pb tb qm fb ga gb b c L n l P f C := by
  induction hr with
  | refl => exact h
  | turn _ hx hb hg ih =>
    obtain ⟨cs, t, h1, h2⟩ := hx
    exact ih.otherT h2 h1 hb hg
  | more _ hb ih => exact ih.below hb
theorem TS.ry (h : TS W w pb tb qm fb ga gb b c xb at_ L n l P f C lf A B) (hr : RY W.heap.size w w') : TS W w' pb tb qm fb ga gb b c xb at_ L n l P f C lf A B := by
  induction hr with
  | refl => exact h
  | turn _ hx hb hg ih =>
    obtain ⟨cs, t, h1, h2⟩ := hx
    exact ih.otherT h2 h1 hb hg
  | more _ hb ih => exact ih.below hb
end
/-- the reference's pool writes no other blocks -/
def KeepR (w w' : World) : Prop := ∀ (x : Nat) (cs : Array Value) (t : TypeId), w.heap[x]? = some (.cells cs t (0, 0)) → t ≠ 138 → t ≠ 94 → t ≠ 101 → w'.heap[x]? = some (.cells cs t (0, 0))
theorem KeepR.of_below {w w' : World} (h : Below w.heap.size w w') : KeepR w w' := fun x cs t hx _ _ _ => (h.block x (blt hx)).trans hx
theorem KeepR.trans {a b c : World} (h1 : KeepR a b) (h2 : KeepR b c) : KeepR a c := fun x cs t hx h3 h4 h5 => h2 x cs t (h1 x cs t hx h3 h4 h5) h3 h4 h5
theorem KeepR.of_rt {ok : Nat → Prop} {w w' : World} (h : RT ok w w') : KeepR w w' := fun x cs t hx h3 h4 _ => h.keep x cs t hx h3 h4
theorem KeepR.of_fac {w w' : World} {fq : Nat} {ds : Array Value} (hg : w.grownBy w' (some fq)) (hd : w.heap[fq]? = some (.cells ds 101 (0, 0))) : KeepR w w' := fun x cs t hx _ _ h5 => (hg.block x (blt hx) (fun e => two_types hx hd h5 (by injection e))).trans hx
theorem RB.turnF {w w' : World} {g top r : Nat} {ds : Array Value} {A1 A2 : Option Addr} {c1 c2 : Nat} {LF LU : List (Nat × Nat)} (h : RB w g top A1 c1 LF A2 c2 LU) (hg : w.grownBy w' (some r)) (hd : w.heap[r]? = some (.cells ds 101 (0, 0))) : RB w' g top A1 c1 LF A2 c2 LU :=
  ⟨h.row.turn hg hd (show 138 ≠ 101 by decide), h.f.turn hg hd (by rw [tyOf_bCells]; decide), h.u.turn hg hd (by rw [tyOf_bCells]; decide), h.cf, h.cu⟩
theorem RCF.turnF {w w' : World} {r : Nat → Nat} {g : Nat} {lr : List Tl} {SL UL : Nat → List Int} {fq : Nat} {ds : Array Value} (h : RCF w r g lr SL UL) (hg : w.grownBy w' (some fq)) (hd : w.heap[fq]? = some (.cells ds 101 (0, 0))) : RCF w' r g lr SL UL := by
  obtain ⟨A1, c1, A2, c2, h1, h2⟩ := h
  refine ⟨A1, c1, A2, c2, fun k hk => ?_, h2⟩
  obtain ⟨S1, d1, S2, d2, h3⟩ := h1 k hk
  exact ⟨S1, d1, S2, d2, h3.rb.turnF hg hd, (hg.block _ (blt h3.row) (fun e => two_types h3.row hd (by decide) (by injection e))).trans h3.row, h3.sl.turn hg hd (by decide), h3.ul.turn hg hd (by decide), h3.cs, h3.cu⟩
def rpRow (g rt : Nat) (r : Nat → Nat) (m : Nat) : Array Value := #[.int .i64 65536, .pointer (some ⟨g, 0, none⟩), .pointer (some ⟨rt, 0, none⟩), cP r m 0, cP r m 1, cP r m 2, cP r m 3, cP r m 4, cP r m 5, cP r m 6, cP r m 7]
/-- the reference's pool -/
structure RP (B : Nat) (w : World) (rp rt fq g : Nat) (r : Nat → Nat) (lr : List Tl) (SL UL : Nat → List Int) (L C : Nat) : Prop where
  row : w.heap[rp]? = some (.cells (rpRow g rt r 8) 58 (0, 0))
  q : QR w rt fq (L : Int) (C : Int)
  f : RCF w r g lr SL UL
  new : B ≤ fq ∧ B ≤ g ∧ ∀ k ∈ cls, B ≤ r k
section
variable {B : Nat} {w w' : World} {rp rt fq g : Nat} {r : Nat → Nat} {lr : List Tl} {SL UL : Nat → List Int} {L C : Nat}
theorem RP.below (h : RP B w rp rt fq g r lr SL UL L C) (hb : Below w.heap.size w w') : RP B w' rp rt fq g r lr SL UL L C := ⟨(hb.block _ (blt h.row)).trans h.row, h.q.below hb, h.f.below hb, h.new⟩
theorem RP.keep (h : RP B w rp rt fq g r lr SL UL L C) (hk : KeepP w w') : RP B w' rp rt fq g r lr SL UL L C := ⟨hk _ _ _ h.row ⟨⟨by decide, by decide, by decide⟩, by decide, by decide⟩, h.q.keep hk, h.f.keep hk, h.new⟩
theorem RP.charged {C' : Nat} (h : RP B w rp rt fq g r lr SL UL L C) (hg : w.grownBy w' (some fq)) (hq : QR w' rt fq (L : Int) (C' : Int)) : RP B w' rp rt fq g r lr SL UL L C' ∧ RY B w w' ∧ KeepR w w' :=
  ⟨⟨(hg.block _ (blt h.row) (fun e => two_types h.row h.q.fac (by decide) (by injection e))).trans h.row, hq, h.f.turnF hg h.q.fac, h.new⟩, .turn (.refl _) ⟨_, _, h.q.fac, by unfold FreeT; decide⟩ h.new.1 hg, KeepR.of_fac hg h.q.fac⟩
theorem RP.r1 (h : RP B w rp rt fq g r lr SL UL L C) : w.cell? ⟨rp, 1, none⟩ = some (.pointer (some ⟨g, 0, none⟩)) := (cell_of_row _ _ 1 _ _ _ h.row).trans rfl
theorem RP.r2 (h : RP B w rp rt fq g r lr SL UL L C) : w.cell? ⟨rp, 2, none⟩ = some (.pointer (some ⟨rt, 0, none⟩)) := (cell_of_row _ _ 2 _ _ _ h.row).trans rfl
theorem rpRow_at (g rt : Nat) (r : Nat → Nat) (m : Nat) : ∀ j, j < 8 → (rpRow g rt r m)[3 + j]? = some (cP r m j)
  | 0, _ => rfl | 1, _ => rfl | 2, _ => rfl | 3, _ => rfl | 4, _ => rfl | 5, _ => rfl | 6, _ => rfl | 7, _ => rfl
theorem RP.rk (h : RP B w rp rt fq g r lr SL UL L C) {k : Nat} (hk : k ∈ cls) : w.cell? ⟨rp, 3 + k, none⟩ = some (.pointer (some ⟨r k, 0, none⟩)) := by
  have := cls_facts k hk
  rw [cell_of_row _ _ _ _ _ _ h.row, rpRow_at _ _ _ _ k (by omega)]
  unfold cP
  rw [if_pos (by omega)]
end
set_option maxRecDepth 100000 in
theorem rpcost (X : Int) (n : Int) (hn : (costI X : Int) = n) (w : World) : Calls Tryz.prog 46 #[.int .i64 X] w fun e w' => e = .returned (.int .i64 n) ∧ w' = w := by
  subst hn
  by_cases h1 : X = 1
  · subst h1
    go_enter Tryz.func46, Tryz.ntmps46
    go_wp2
    go_ret
    exact ⟨rfl, rfl⟩
  by_cases h2 : X = 2
  · subst h2
    go_enter Tryz.func46, Tryz.ntmps46
    go_wp2
    go_ret
    exact ⟨rfl, rfl⟩
  by_cases h3 : X = 3
  · subst h3
    go_enter Tryz.func46, Tryz.ntmps46
    go_wp2
    go_ret
    exact ⟨rfl, rfl⟩
  by_cases h4 : X = 4
  · subst h4
    go_enter Tryz.func46, Tryz.ntmps46
    go_wp2
    go_ret
    exact ⟨rfl, rfl⟩
  by_cases h5 : X = 5
  · subst h5
    go_enter Tryz.func46, Tryz.ntmps46
    go_wp2
    go_ret
    exact ⟨rfl, rfl⟩
  by_cases h6 : X = 6
  · subst h6
    go_enter Tryz.func46, Tryz.ntmps46
    go_wp2
    go_ret
    exact ⟨rfl, rfl⟩
  by_cases h7 : X = 7
  · subst h7
    go_enter Tryz.func46, Tryz.ntmps46
    go_wp2
    go_ret
    exact ⟨rfl, rfl⟩
  have e0 : costI X = 0 := cost_no fun k hk e => by
    have := cls_facts k hk
    omega
  have t1 : (X == 1) = false := by simp [h1]
  have t2 : (X == 2) = false := by simp [h2]
  have t3 : (X == 3) = false := by simp [h3]
  have t4 : (X == 4) = false := by simp [h4]
  have t5 : (X == 5) = false := by simp [h5]
  have t6 : (X == 6) = false := by simp [h6]
  have t7 : (X == 7) = false := by simp [h7]
  rw [e0]
  clear h1 h2 h3 h4 h5 h6 h7 e0
  go_enter Tryz.func46, Tryz.ntmps46
  go_wp2
  go_ret
  exact ⟨rfl, rfl⟩
end Go.Proofs.YtflkoabgkgegjaaGreatDoor
