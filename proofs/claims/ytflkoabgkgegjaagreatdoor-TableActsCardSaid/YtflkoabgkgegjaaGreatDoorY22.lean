/- The pool's state; Cost, Has, Arena, Quota, Used. Condition: the pool's state, and the table of costs holds what its text says. And what follows from it. -/
import Derived.Test.YtflkoabgkgegjaaGreatDoorY20
import Derived.Test.YtflkoabgkgegjaaGreatDoorY21
import Derived.Test.YtflkoabgkgegjaaGreatDoorY9
/- The pool's state; Cost, Has, Arena, Quota, Used. Condition: the pool's state, and the table of costs holds what its text says. -/
namespace Go.Proofs.YtflkoabgkgegjaaGreatDoor
open Go.RowKit Go.Maps

/-- the table of costs holds what its text says -/
def TabC (w : World) : Prop := ∀ j, j < 8 → w.cell? ⟨0, j, none⟩ = some (.int .i64 ((szC j : Nat) : Int))
theorem TabC.lt {w : World} (h : TabC w) : 0 < w.heap.size := World.block_lt_of_cell? w ⟨0, 0, none⟩ (h 0 (by omega))
theorem TabC.below {w w' : World} {B : Nat} (h : TabC w) (hB : 0 < B) (hb : Below B w w') : TabC w' := fun k hk => (hb.cell (p := ⟨0, k, none⟩) hB).trans (h k hk)
def costI (X : Int) : Nat := if 0 ≤ X ∧ X < 8 then szC X.toNat else 0
theorem cost_cls {k : Nat} (hk : k ∈ cls) : costI (k : Int) = szC k := by
  have := cls_facts k hk
  unfold costI
  rw [if_pos (by omega), Int.toNat_natCast]
theorem cost_no {X : Int} (h : ∀ k ∈ cls, X ≠ (k : Int)) : costI X = 0 := by
  unfold costI
  split
  · rename_i q
    by_cases e : X = 0
    · subst e; rfl
    · have h1 : X.toNat ∈ cls := by
        have : X.toNat = 1 ∨ X.toNat = 2 ∨ X.toNat = 3 ∨ X.toNat = 4 ∨ X.toNat = 5 ∨ X.toNat = 6 ∨ X.toNat = 7 := by omega
        simp only [cls, List.mem_cons, List.not_mem_nil, or_false]
        exact this
      exact absurd (by omega) (h X.toNat h1)
  · rfl
set_option maxRecDepth 100000 in
theorem pcost (X : Int) (w : World) (hT : TabC w) (n : Int) (hn : (costI X : Int) = n) : Calls Tryz.prog 47 #[.int .i64 X] w fun e w' => e = .returned (.int .i64 n) ∧ w' = w := by
  subst hn
  by_cases h1 : X < 0
  · have t1 : decide (X < 0) = true := decide_eq_true h1
    have e : costI X = 0 := by unfold costI; rw [if_neg (by omega)]
    rw [e]
    clear e h1 hT
    go_enter Tryz.func47, Tryz.ntmps47
    go_wp2
    go_ret
    exact ⟨rfl, rfl⟩
  have t1 : decide (X < 0) = false := decide_eq_false h1
  by_cases h2 : 8 ≤ X
  · have t2 : decide (8 ≤ X) = true := decide_eq_true h2
    have e : costI X = 0 := by unfold costI; rw [if_neg (by omega)]
    rw [e]
    clear e h1 h2 hT
    go_enter Tryz.func47, Tryz.ntmps47
    go_wp2
    go_ret
    exact ⟨rfl, rfl⟩
  have t2 : decide (8 ≤ X) = false := decide_eq_false h2
  have e : costI X = szC X.toNat := by unfold costI; rw [if_pos (by omega)]
  have hc := hT X.toNat (by omega)
  have i0 : (0 : Int) ≤ X := by omega
  have i1 : X < 8 := by omega
  rw [e]
  clear e h1 h2 hT
  go_enter Tryz.func47, Tryz.ntmps47
  go_wp2
  go_ret
  exact ⟨rfl, rfl⟩
/-- a cache's place in the pool's row -/
def cP (c : Nat → Nat) (m j : Nat) : Value := if 1 ≤ j ∧ j < m then .pointer (some ⟨c j, 0, none⟩) else .pointer none
def plRow (tb b ga : Nat) (c : Nat → Nat) (m : Nat) : Array Value := #[.pointer (some ⟨tb, 0, none⟩), .pointer (some ⟨b, 0, none⟩), .pointer (some ⟨ga, 0, none⟩), cP c m 0, cP c m 1, cP c m 2, cP c m 3, cP c m 4, cP c m 5, cP c m 6, cP c m 7]
def qObj (fb : Nat) : Obj := .map #[⟨.int .i64 0, .pointer (some ⟨fb, 0, none⟩), 0⟩] 1
/-- a pool: its caches over its allocator, its quota, its arena -/
structure PL (W w : World) (pb tb qm fb ga gb b : Nat) (c : Nat → Nat) (L n : Nat) (l : List Tl) (P : Nat → List Pg) (f : Nat → Nat) (C : Nat) : Prop where
  fam : SGF W [(qm, qObj fb)] w cls c szC mC b 6 n l P
  row : w.heap[pb]? = some (.cells (plRow tb b ga c 8) 88 (0, 0))
  qu : QuAt w tb qm fb (L : Int) (C : Int)
  ar : Ar.ArAt w ga gb 65536 f
  lay : FLay l P
  le : C ≤ L ∧ L ≤ 65536
  new : W.heap.size ≤ fb ∧ W.heap.size ≤ gb
section
variable {W w w' : World} {pb tb qm fb ga gb b : Nat} {c : Nat → Nat} {L n : Nat} {l : List Tl} {P : Nat → List Pg} {f : Nat → Nat} {C : Nat}
theorem one_mem : 1 ∈ cls := by decide
theorem PL.below (h : PL W w pb tb qm fb ga gb b c L n l P f C) (hb : Below w.heap.size w w') : PL W w' pb tb qm fb ga gb b c L n l P f C :=
  ⟨h.fam.below hb, (hb.block _ (blt h.row)).trans h.row, h.qu.below hb, h.ar.below hb, h.lay, h.le, h.new⟩
theorem PL.monon {n' : Nat} (h : PL W w pb tb qm fb ga gb b c L n l P f C) (hn : n ≤ n') : PL W w pb tb qm fb ga gb b c L n' l P f C :=
  ⟨h.fam.monon hn, h.row, h.qu, h.ar, h.lay, h.le, h.new⟩
theorem PL.way (h : PL W w pb tb qm fb ga gb b c L n l P f C) : Below W.heap.size W w := (h.fam.at one_mem).way
theorem PL.r0 (h : PL W w pb tb qm fb ga gb b c L n l P f C) : w.cell? ⟨pb, 0, none⟩ = some (.pointer (some ⟨tb, 0, none⟩)) := (cell_of_row _ _ 0 _ _ _ h.row).trans rfl
theorem PL.r1 (h : PL W w pb tb qm fb ga gb b c L n l P f C) : w.cell? ⟨pb, 1, none⟩ = some (.pointer (some ⟨b, 0, none⟩)) := (cell_of_row _ _ 1 _ _ _ h.row).trans rfl
theorem PL.r2 (h : PL W w pb tb qm fb ga gb b c L n l P f C) : w.cell? ⟨pb, 2, none⟩ = some (.pointer (some ⟨ga, 0, none⟩)) := (cell_of_row _ _ 2 _ _ _ h.row).trans rfl
theorem plRow_at (tb b ga : Nat) (c : Nat → Nat) (m : Nat) : ∀ j, j < 8 → (plRow tb b ga c m)[3 + j]? = some (cP c m j)
  | 0, _ => rfl | 1, _ => rfl | 2, _ => rfl | 3, _ => rfl | 4, _ => rfl | 5, _ => rfl | 6, _ => rfl | 7, _ => rfl
theorem PL.rk (h : PL W w pb tb qm fb ga gb b c L n l P f C) {k : Nat} (hk : k ∈ cls) : w.cell? ⟨pb, 3 + k, none⟩ = some (.pointer (some ⟨c k, 0, none⟩)) := by
  have := cls_facts k hk
  rw [cell_of_row _ _ _ _ _ _ h.row, plRow_at _ _ _ _ _ k (by omega)]
  unfold cP
  rw [if_pos (by omega)]
/-- a cache of the pool is used -/
theorem PL.use (h : PL W w pb tb qm fb ga gb b c L n l P f C) {k : Nat} (hk : k ∈ cls) : ∃ K', SG W K' w (c k) b (szC k) (mC k) 6 n l (P k) ∧ ∀ w' n' l' P', SG W K' w' (c k) b (szC k) (mC k) 6 n' l' P' → FLay l' (updF P k P') → PL W w' pb tb qm fb ga gb b c L n' l' (updF P k P') f C ∧ Keep w w' := by
  obtain ⟨K', h1, h2⟩ := h.fam.use hk
  refine ⟨K', h1, fun w' n' l' P' hs hl => ?_⟩
  obtain ⟨h3, h4⟩ := h2 w' n' l' P' hs
  have hq := h3.kept one_mem (qm, qObj fb) (List.mem_singleton.2 rfl)
  obtain ⟨a1, ⟨cs, a2, a3⟩, a4, a5⟩ := h.ar
  have hc : w'.heap[gb]? = some (.cells cs 5 (0, 0)) := h4 _ _ _ a2 ⟨by decide, by decide, by decide⟩
  refine ⟨⟨h3, h4 _ _ _ h.row ⟨by decide, by decide, by decide⟩, ⟨h4 _ _ _ h.qu.tree ⟨by decide, by decide, by decide⟩, hq, h4 _ _ _ h.qu.fac ⟨by decide, by decide, by decide⟩⟩, ⟨h4 _ _ _ a1 ⟨by decide, by decide, by decide⟩, ⟨cs, hc, a3⟩, fun i hi => ?_, a5⟩, hl, h.le, h.new⟩, h4⟩
  have := a4 i hi
  rw [cell_of_row _ _ _ _ _ _ a2] at this
  rw [cell_of_row _ _ _ _ _ _ hc, this]
theorem updF_eta {α : Type} (g : Nat → α) (k : Nat) : updF g k (g k) = g := by
  funext j
  unfold updF
  split
  · rename_i e; rw [e]
  · rfl
set_option maxRecDepth 100000 in
theorem phas (h : PL W w pb tb qm fb ga gb b c L n l P f C) (hC : TabC W) {k : Nat} (hk : k ∈ cls) (K : Int) (hK : (k : Int) = K) (X : Int) (hX : (Lit.int .i64 X).wf = true) (r : Bool) (hr : r = true ↔ X ∈ usedC (mC k) (szC k) (P k)) :
    Calls Tryz.prog 39 #[.pointer (some ⟨pb, 0, none⟩), .int .i64 K, .int .i64 X] w fun e w' => e = .returned (.bool r) ∧ PL W w' pb tb qm fb ga gb b c L n l P f C ∧ Keep w w' := by
  have hcf := cls_facts k hk
  have HH := Lib.hid h
  have HT : Hid (TabC w) := Lib.hid (hC.below hC.lt h.way)
  have HR := Lib.hid hr
  have HX := Lib.hid hX
  have HK := Lib.hid hk
  have HC : Hid ((costI K : Int) = ((szC k : Nat) : Int)) := Lib.hid (by rw [← hK, cost_cls hk])
  obtain ⟨z, hz⟩ : ∃ z : Int, ((szC k : Nat) : Int) = z := ⟨_, rfl⟩
  have t1 : decide (0 < z) = true := decide_eq_true (by omega)
  have i0 : (0 : Int) ≤ K := by omega
  have i1 : K < 8 := by omega
  have rk : w.cell? ⟨pb, 3 + K.toNat, none⟩ = some (.pointer (some ⟨c k, 0, none⟩)) := by
    rw [show K.toNat = k by omega]
    exact h.rk hk
  rw [hz] at HC
  clear h hC hr hX hk hcf hz hK
  go_enter Tryz.func39, Tryz.ntmps39
  go_wp2_with fail
  refine (pcost K _ HT.out z HC.out).mono ?_
  rintro e w' ⟨rfl, hw⟩
  have hw2 := hw.symm
  clear hw
  subst hw2
  go_wp2_with fail
  obtain ⟨K', u1, u2⟩ := HH.out.use HK.out
  have hcf := cls_facts k HK.out
  refine (has_s u1 (HH.out.lay.lay k HK.out) (by omega) hcf.2.1 hcf.2.2.1 X HX.out r HR.out).mono ?_
  rintro e w2 ⟨rfl, h2⟩
  obtain ⟨h3, h4⟩ := u2 _ _ _ _ h2 (by rw [updF_eta]; exact HH.out.lay)
  rw [updF_eta] at h3
  have H3 := Lib.hid h3
  have H4 := Lib.hid h4
  clear h2 h3 h4 hcf u1 u2
  go_wp2
  go_ret
  exact ⟨rfl, H3.out, H4.out⟩
set_option maxRecDepth 100000 in
theorem parena (h : PL W w pb tb qm fb ga gb b c L n l P f C) : Calls Tryz.prog 26 #[.pointer (some ⟨pb, 0, none⟩)] w fun e w' => e = .returned (.pointer (some ⟨ga, 0, none⟩)) ∧ w' = w := by
  have r2 := h.r2
  clear h
  go_enter Tryz.func26, Tryz.ntmps26
  go_wp2
  go_ret
  exact ⟨rfl, rfl⟩
set_option maxRecDepth 100000 in
theorem pquota (h : PL W w pb tb qm fb ga gb b c L n l P f C) : Calls Tryz.prog 20 #[.pointer (some ⟨pb, 0, none⟩)] w fun e w' => e = .returned (.pointer (some ⟨tb, 0, none⟩)) ∧ w' = w := by
  have r0 := h.r0
  clear h
  go_enter Tryz.func20, Tryz.ntmps20
  go_wp2
  go_ret
  exact ⟨rfl, rfl⟩
end
end Go.Proofs.YtflkoabgkgegjaaGreatDoor
/- The pool's Get. Condition: the pool's state, and the tables hold what their texts say. -/
namespace Go.Proofs.YtflkoabgkgegjaaGreatDoor
open Go.RowKit Go.Maps

/-- the types of the blocks that a pool writes not -/
def OffP (t : TypeId) : Prop := OffT t ∧ t ≠ 111 ∧ t ≠ 5
def KeepP (w w' : World) : Prop := ∀ (x : Nat) (cs : Array Value) (t : TypeId), w.heap[x]? = some (.cells cs t (0, 0)) → OffP t → w'.heap[x]? = some (.cells cs t (0, 0))
theorem Keep.p {w w' : World} (h : Keep w w') : KeepP w w' := fun x cs t hx ht => h x cs t hx ht.1
theorem KeepP.of_below {w w' : World} (h : Below w.heap.size w w') : KeepP w w' := (Keep.of_below h).p
theorem KeepP.trans {a b c : World} (h1 : KeepP a b) (h2 : KeepP b c) : KeepP a c := fun x cs t hx ht => h2 x cs t (h1 x cs t hx ht) ht
theorem KeepP.of_grown {w w' : World} {g : Nat} {ds : Array Value} {u : TypeId} (h : w.grownBy w' (some g)) (hg : w.heap[g]? = some (.cells ds u (0, 0))) (hu : ¬ OffP u) : KeepP w w' := fun x cs t hx ht =>
  (h.block x (blt hx) (fun e => by
    injection e with e
    subst e
    rw [hx] at hg
    injection hg with hg
    injection hg with _ hg
    subst hg
    exact hu ht)).trans hx
theorem fac_off : ¬ OffP 111 := fun h => h.2.1 rfl
theorem u8_off : ¬ OffP 5 := fun h => h.2.2 rfl
/-- a used place lies in the arena -/
theorem used_place {M size : Nat} {l : List Tl} {P : List Pg} (hl : Lay 6 M l P) (hg : Good 6 l) (hM : M = 960 / size) (h16 : size % 16 = 0) {X : Int} (hX : X ∈ usedC M size P) : ∃ a : Nat, X = (a : Int) ∧ a + size ≤ 65536 ∧ a % 16 = 0 ∧ 64 ≤ a := by
  obtain ⟨p, hp, j, hj, _, rfl⟩ := mem_usedC.1 hX
  have h1 := (blks_lt (hl.mem p hp)).2
  have h2 := hg.all
  simp only at h1
  have h3 := place_end hM hj
  refine ⟨1024 * p.q + 64 + j * size, rfl, by omega, ?_, by omega⟩
  obtain ⟨m, hm⟩ : ∃ m, size = 16 * m := ⟨size / 16, by omega⟩
  rw [hm, show j * (16 * m) = 16 * (j * m) by rw [Nat.mul_left_comm]]
  omega
theorem sz16 {k : Nat} (hk : k ∈ cls) : szC k % 16 = 0 := by revert k; decide
section
variable {W w w' : World} {pb tb qm fb ga gb b : Nat} {c : Nat → Nat} {L n : Nat} {l : List Tl} {P : Nat → List Pg} {f : Nat → Nat} {C : Nat}
theorem PL.good (h : PL W w pb tb qm fb ga gb b c L n l P f C) : Good 6 l := (h.fam.at one_mem).good
theorem PL.wf (h : PL W w pb tb qm fb ga gb b c L n l P f C) {k : Nat} (hk : k ∈ cls) : ∀ p ∈ P k, WF (mC k) p.ws := (h.fam.at hk).wf
theorem PL.rise (h : PL W w pb tb qm fb ga gb b c L n l P f C) {k : Nat} (hk : k ∈ cls) : RisesQ (P k) := (h.fam.at hk).rise
theorem PL.nq (h : PL W w pb tb qm fb ga gb b c L n l P f C) {x : Nat} {cs : Array Value} {t : TypeId} (hx : w.heap[x]? = some (.cells cs t (0, 0))) : ∀ y ∈ [(qm, qObj fb)], y.1 ≠ x := fun y hy e => by
  rw [List.mem_singleton.1 hy] at e
  simp only at e
  subst e
  have h1 := h.qu.map
  rw [hx] at h1
  cases h1
/-- what was charged turns -/
theorem PL.charged (h : PL W w pb tb qm fb ga gb b c L n l P f C) {C' : Nat} (hg : w.grownBy w' (some fb)) (hq : QuAt w' tb qm fb (L : Int) (C' : Int)) (hC : C' ≤ L) : PL W w' pb tb qm fb ga gb b c L n l P f C' ∧ KeepP w w' := by
  have hk := KeepP.of_grown hg h.qu.fac fac_off
  obtain ⟨a1, ⟨cs, a2, a3⟩, a4, a5⟩ := h.ar
  have hc : w'.heap[gb]? = some (.cells cs 5 (0, 0)) := (hg.block _ (blt a2) (fun e => two_types a2 h.qu.fac (by decide) (by injection e))).trans a2
  refine ⟨⟨h.fam.otherK h.qu.fac h.new.1 (h.nq h.qu.fac) (by decide) (by decide) (by decide) (by decide) (by decide) hg, hk _ _ _ h.row ⟨⟨by decide, by decide, by decide⟩, by decide, by decide⟩, hq, ⟨hk _ _ _ a1 ⟨⟨by decide, by decide, by decide⟩, by decide, by decide⟩, ⟨cs, hc, a3⟩, fun i hi => ?_, a5⟩, h.lay, ⟨hC, h.le.2⟩, h.new⟩, hk⟩
  have := a4 i hi
  rw [cell_of_row _ _ _ _ _ _ a2] at this
  rw [cell_of_row _ _ _ _ _ _ hc, this]
/-- the arena's bytes turn -/
theorem PL.wrote (h : PL W w pb tb qm fb ga gb b c L n l P f C) {f' : Nat → Nat} (hg : w.grownBy w' (some gb)) (ha : Ar.ArAt w' ga gb 65536 f') : PL W w' pb tb qm fb ga gb b c L n l P f' C ∧ KeepP w w' := by
  obtain ⟨a1, ⟨cs, a2, a3⟩, a4, a5⟩ := h.ar
  have hk := KeepP.of_grown hg a2 u8_off
  have hm : w'.heap[qm]? = some (qObj fb) := (hg.block _ (by
    have := h.qu.map
    rcases Nat.lt_or_ge qm w.heap.size with q | q
    · exact q
    · rw [Array.getElem?_eq_none q] at this; cases this) (fun e => h.nq a2 _ (List.mem_singleton.2 rfl) (by injection e))).trans h.qu.map
  exact ⟨⟨h.fam.otherK a2 h.new.2 (h.nq a2) (by decide) (by decide) (by decide) (by decide) (by decide) hg, hk _ _ _ h.row ⟨⟨by decide, by decide, by decide⟩, by decide, by decide⟩, ⟨hk _ _ _ h.qu.tree ⟨⟨by decide, by decide, by decide⟩, by decide, by decide⟩, hm, (hg.block _ (blt h.qu.fac) (fun e => two_types h.qu.fac a2 (by decide) (by injection e))).trans h.qu.fac⟩, ha, h.lay, h.le, h.new⟩, hk⟩
theorem pget_arg (X : Int) (hX : costI X = 0) (x : Int) (w : World) (hC : TabC w) : Calls Tryz.prog 14 #[.pointer (some ⟨pb, 0, none⟩), .int .i64 x, .int .i64 X] w fun e w' => e = .returned (.tuple #[.int .i64 0, .int .i64 1]) ∧ w' = w := by
  have HT := Lib.hid hC
  have HC : Hid ((costI X : Int) = 0) := Lib.hid (by rw [hX]; rfl)
  clear hC hX
  go_enter Tryz.func14, Tryz.ntmps14
  go_wp2_with fail
  refine (pcost X _ HT.out 0 HC.out).mono ?_
  rintro e w' ⟨rfl, hw⟩
  have hw2 := hw.symm
  clear hw
  subst hw2
  go_wp2
  go_ret2
  exact ⟨rfl, rfl⟩
set_option maxRecDepth 100000 in
set_option maxHeartbeats 3200000 in
theorem pget_quota (h : PL W w pb tb qm fb ga gb b c L n l P f C) (hC : TabC W) {k : Nat} (hk : k ∈ cls) (K : Int) (hK : (k : Int) = K) (hq : L < C + szC k) : Calls Tryz.prog 14 #[.pointer (some ⟨pb, 0, none⟩), .int .i64 0, .int .i64 K] w fun e w' => e = .returned (.tuple #[.int .i64 0, .int .i64 5]) ∧ Below w.heap.size w w' := by
  have hcf := cls_facts k hk
  have HH := Lib.hid h
  have HT : Hid (TabC w) := Lib.hid (hC.below hC.lt h.way)
  have HC : Hid ((costI K : Int) = ((szC k : Nat) : Int)) := Lib.hid (by rw [← hK, cost_cls hk])
  obtain ⟨z, hz⟩ : ∃ z : Int, ((szC k : Nat) : Int) = z := ⟨_, rfl⟩
  have HZ := Lib.hid hz
  have HQ := Lib.hid hq
  have t1 : (z == 0) = false := by simp only [beq_eq_false_iff_ne, ne_eq]; omega
  have r0 := h.r0
  rw [hz] at HC
  clear h hC hk hcf hz hK hq
  go_enter Tryz.func14, Tryz.ntmps14
  go_wp2_with fail
  refine (pcost K _ HT.out z HC.out).mono ?_
  rintro e w' ⟨rfl, hw⟩
  have hw2 := hw.symm
  clear hw
  subst hw2
  go_wp2_with fail
  have hd := HH.out.below (Below.refl _ _).drew
  have hTd : TabC w.drew := HT.out
  go_region_held3 (fun w' => w'.cell? ⟨pb, 0, none⟩ = some (.pointer (some ⟨tb, 0, none⟩))) (first | (exact PL.r0 (by assumption))) (first | (go_at_call 47; (with_reducible refine (pcost K _ hTd z HC.out).mono ?_); rintro e w8 ⟨rfl, rfl⟩) | (go_at_call 48; (with_reducible refine (qcharge_no (PL.qu (by assumption)) HH.out.le.1 (by have := HH.out.le.2; omega) (szC k) HQ.out z HZ.out.symm).mono ?_); rintro e w9 ⟨rfl, h9⟩; have h10 := PL.below (by assumption) h9))
  all_goals
    have HB := Lib.hid ((Below.refl w.heap.size w).drew.trans (h9.mono (Nat.le_refl _)))
    clear hd hTd h9 h10
    go_wp2
    go_ret2
    exact ⟨rfl, HB.out⟩
end
end Go.Proofs.YtflkoabgkgegjaaGreatDoor
/- The reference's small functions. Condition: the lists are read. -/
namespace Go.Proofs.YtflkoabgkgegjaaGreatDoor
open Go.RowKit

/-- the size of an order -/
theorem size_r (q : Nat) (hq : q ≤ 20) (Q : Int) (hQ : Q = (q : Int)) (W : World) : Calls Tryz.prog 67 #[.int .i64 Q] W fun e w' => e = .returned (.int .i64 ((1024 * 2 ^ q : Nat) : Int)) ∧ w' = W := by
  have HQ := Lib.hid hQ
  clear hQ
  go_enter Tryz.func67, Tryz.ntmps67
  go_wp2
  go_loopw [3, 4] (fun n i wr => ∃ k : Nat, k ≤ q ∧ n = .int .i64 ((1024 * 2 ^ k : Nat) : Int) ∧ i = .int .i64 (k : Int) ∧ wr = W) (fun _ i _ => q - (intOf i).toNat)
  case atStart => exact ⟨0, Nat.zero_le _, rfl, rfl, rfl⟩
  case round =>
    obtain ⟨k, hk, rfl, rfl, rfl⟩ := hrel
    by_cases hlt : k < q
    · have i1 : decide ((k : Int) < Q) = true := decide_eq_true (by have := HQ.out; omega)
      have i0 : (0 : Int) ≤ (k : Int) := by omega
      obtain ⟨X, hX⟩ : ∃ X : Int, ((1024 * 2 ^ k : Nat) : Int) = X := ⟨_, rfl⟩
      obtain ⟨Y, hY⟩ : ∃ Y : Int, ((1024 * 2 ^ (k + 1) : Nat) : Int) = Y := ⟨_, rfl⟩
      have hp : 2 ^ k ≤ 2 ^ 20 := Nat.pow_le_pow_right (by decide) (by omega)
      have z : IntKind.i64.wrap (X * 2) = Y := by
        rw [← hX, ← hY, Nat.pow_succ, IntKind.wrap_i64]
        omega
      have HY := Lib.hid hY
      rw [hX]
      clear hX hY hp
      go_wp2
      go_roundw
      case rel => exact ⟨k + 1, by omega, by rw [HY.out], by go_num, by first | rfl | trivial⟩
      case measure => (try simp [intOf]) <;> omega
    · have i1 : decide ((k : Int) < Q) = false := decide_eq_false (by have := HQ.out; omega)
      obtain rfl : k = q := by omega
      clear hk hlt
      go_wp2
      go_ret
      exact ⟨rfl, rfl⟩
/-- a block's place among some; none: -1 -/
def FindR (L : List (Nat × Nat)) (x r : Int) : Prop := (r = -1 ∧ ∀ y ∈ L, ((1024 * y.1 : Nat) : Int) ≠ x) ∨ ∃ (k : Nat) (hk : k < L.length), r = (k : Int) ∧ ((1024 * L[k].1 : Nat) : Int) = x
theorem find_r (L : List (Nat × Nat)) (m : Nat) (hm : m = L.length) (hl : m ≤ 1048576) (A : Option Addr) (ca : Nat) (x : Int) (w : World) (hA : SlR w A (bCells L)) :
    Calls Tryz.prog 102 #[.slice A m ca, .int .i64 x] w fun e w' => ∃ r, e = .returned (.int .i64 r) ∧ FindR L x r ∧ w' = w := by
  have HA := Lib.hid hA
  have HM := Lib.hid hm
  have HL := Lib.hid hl
  clear hA hm hl
  go_enter Tryz.func102, Tryz.ntmps102
  go_wp2
  go_loopw [5] (fun i wr => ∃ k : Nat, k ≤ m ∧ i = .int .i64 k ∧ (∀ j (hj : j < L.length), j < k → ((1024 * L[j].1 : Nat) : Int) ≠ x) ∧ wr = w) (fun i _ => m - (intOf i).toNat)
  case atStart => exact ⟨0, Nat.zero_le _, rfl, fun j _ h => absurd h (Nat.not_lt_zero _), rfl⟩
  case round =>
    obtain ⟨k, hk, rfl, hn, rfl⟩ := hrel
    have HNo := Lib.hid hn
    clear hn
    by_cases hlt : k < m
    · have hlt2 : k < L.length := by rw [← HM.out]; exact hlt
      obtain ⟨b, off, rfl, _, q1, q2⟩ := HA.out.blk' hlt2
      obtain ⟨X, hX⟩ : ∃ X : Int, ((1024 * L[k].1 : Nat) : Int) = X := ⟨_, rfl⟩
      have HX := Lib.hid hX
      rw [hX] at q1
      have i1 : (0 : Int) ≤ (k : Int) := Int.natCast_nonneg _
      have i2 : (k : Int) < (m : Int) := by omega
      have zk : IntKind.i64.wrap ((k : Int) + 1) = (k : Int) + 1 := by rw [IntKind.wrap_i64]; have := HL.out; omega
      clear q2 hX
      by_cases hx : X = x
      · have t1 : (X == x) = true := by simpa using hx
        have HR : Hid (FindR L x (k : Int)) := Lib.hid (.inr ⟨k, hlt2, rfl, by rw [HX.out]; exact hx⟩)
        clear hx HX hlt2
        go_wp2
        go_ret
        exact ⟨_, rfl, HR.out, rfl⟩
      · have t1 : (X == x) = false := by simpa using hx
        have HN2 : Hid (∀ j (hj : j < L.length), j < k + 1 → ((1024 * L[j].1 : Nat) : Int) ≠ x) := Lib.hid (fun j hj hjk => by
          by_cases e : j = k
          · subst e
            rw [HX.out]; exact hx
          · exact HNo.out j hj (by omega))
        clear hx HX hlt2
        go_wp2
        go_roundw
        case rel => exact ⟨k + 1, by omega, by go_num, HN2.out, by first | rfl | trivial⟩
        case measure => (try simp [intOf]) <;> omega
    · have q : ¬ ((k : Int) < (m : Int)) := by omega
      have HR : Hid (FindR L x (-1)) := Lib.hid (.inl ⟨rfl, fun y hy => by
        obtain ⟨j, hj, e⟩ := List.getElem_of_mem hy
        rw [← e]
        exact HNo.out j hj (by have := HM.out; omega)⟩)
      clear hk hlt
      go_wp2
      go_ret
      exact ⟨_, rfl, HR.out, rfl⟩
end Go.Proofs.YtflkoabgkgegjaaGreatDoor
