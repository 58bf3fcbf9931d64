/- The contracts of OnesCount64, OnesCount, New, and of what New refuses. No condition. And what follows from it. -/
import Derived.Test.YtflkoabgkgegjaaDoorProg
import Derived.Test.YtflkoabgkgegjaaDoorY30
import Derived.WalkKit
import Derived.WalkLawsBesides
import Derived.WalkSpells
import Derived.Deep.QuietTactic
import Derived.BigQuiet
import Derived.Deep.RegionHeld3
import Derived.Deep.RegionLaw
import Derived.Outline
import Derived.Test.YtflkoabgkgegjaaDoorY28
/- The contracts of OnesCount64, OnesCount, New, and of what New refuses. No condition. -/
namespace Go.Proofs.YtflkoabgkgegjaaDoor.Ar
open Go.RowKit

theorem info_u8 : (Tryd.prog.info? 5).map (fun i => (i.zero, i.size, i.bytes)) = some (some (.int .u8 0), 1, 1) := by kernel_rfl



set_option maxRecDepth 100000 in
theorem onescount_any (x : Nat) (hx : x < 18446744073709551616) (w : World) : Calls Tryd.prog 46 #[.int .u64 (x : Int)] w fun e w' => e = .returned (.int .i64 ((pop x : Nat) : Int)) ∧ w' = w := by
  go_enter Tryd.func46, Tryd.ntmps46
  go_wp2_with (go_at_call 61; refine (ones_any x hx _).mono ?_; rintro e w' ⟨rfl, rfl⟩)
  go_ret
  exact ⟨rfl, rfl⟩

theorem made_zero (k : Nat) : madeCells #[Value.int .u8 0] (k * 1) = (u8s (List.replicate k 0)).toArray := by
  apply Array.ext
  · simp [madeCells, u8s]
  · intro j h1 h2
    have e : j % 1 = 0 := Nat.mod_one j
    simp [madeCells, u8s, e]
theorem run_new (n : Nat) (h : n ≤ 1073741824) (w : World) : (Instr.makeSlice 45 (.int .i64 (n : Int)) (.int .i64 (n : Int))).run Tryd.prog w = .ok (.slice (some ⟨w.heap.size, 0, none⟩) n n) (w.alloc (.cells (u8s (List.replicate n 0)).toArray 5)) := by
  obtain ⟨i, hi, hz, hs, hb⟩ := info_parts info_u8
  have := run_make (P := Tryd.prog) w 45 5 i _ Tryd.underlying45 hi hz .i64 .i64 (n : Int) (n : Int) (by omega) (by omega) (by rw [hb]; omega) (by omega)
  rw [show ((n : Int)).toNat = n by omega, hs] at this
  rw [this]
  have e := made_zero n
  simp only [Value.cells] at e ⊢
  rw [e]

theorem ArAt_new (w : World) (N : Nat) (hN : N ≤ 1073741824) : ArAt ((w.alloc (.cells (u8s (List.replicate N 0)).toArray 5)).alloc (.cells #[.slice (some ⟨w.heap.size, 0, none⟩) N N] 99)) (w.heap.size + 1) w.heap.size N (fun _ => 0) := by
  have e1 := heap_alloc_new (w.alloc (.cells (u8s (List.replicate N 0)).toArray 5)) (.cells #[.slice (some ⟨w.heap.size, 0, none⟩) N N] 99)
  rw [World.size_alloc] at e1
  have e2 := (Below.heap_alloc (w.alloc (.cells (u8s (List.replicate N 0)).toArray 5)) (.cells #[.slice (some ⟨w.heap.size, 0, none⟩) N N] 99) w.heap.size (by simp)).trans (heap_alloc_new w _)
  refine ⟨e1, ⟨_, e2, by simp [u8s]⟩, fun i hi => ?_, fun _ => (show 0 < 256 by omega), by omega, hN⟩
  rw [cell_of_row _ _ i _ _ _ e2]
  simp [u8s, hi]

set_option maxRecDepth 100000 in
theorem new_yes (N : Nat) (w : World) (h1 : 65536 ≤ N) (h2 : N ≤ 1073741824) (hp : pop N = 1) : Calls Tryd.prog 23 #[.int .i64 (N : Int)] w fun e w' => e = .returned (.pointer (some ⟨w.heap.size + 1, 0, none⟩)) ∧ ArAt w' (w.heap.size + 1) w.heap.size N (fun _ => 0) ∧ Below w.heap.size w w' := by
  have i1 : (65536 : Int) ≤ (N : Int) := by omega
  have i2 : (N : Int) ≤ 1073741824 := by omega
  have hm := run_new N h2
  have H : Hid (ArAt ((w.alloc (.cells (u8s (List.replicate N 0)).toArray 5)).alloc (.cells #[.slice (some ⟨w.heap.size, 0, none⟩) N N] 99)) (w.heap.size + 1) w.heap.size N (fun _ => 0)) := Lib.hid (ArAt_new w N h2)
  have Hp := Lib.hid hp
  clear hp
  go_enter Tryd.func23, Tryd.ntmps23
  go_wp2_with (go_at_call 46; refine (onescount_any N (by omega) _).mono ?_; rintro e w' ⟨rfl, rfl⟩; rw [Hp.out])
  go_ret
  exact ⟨rfl, H.out, ((Below.refl _ _).alloc (Nat.le_refl _) _).alloc (by simp) _⟩
set_option maxRecDepth 100000 in
theorem new_small (n : Int) (w : World) (h : n < 65536) : Calls Tryd.prog 23 #[.int .i64 n] w fun e w' => e = .returned (.pointer none) ∧ w' = w := by
  go_enter Tryd.func23, Tryd.ntmps23
  go_wp2
  go_ret
  exact ⟨rfl, rfl⟩
set_option maxRecDepth 100000 in
theorem new_great (n : Int) (w : World) (h : 1073741824 < n) : Calls Tryd.prog 23 #[.int .i64 n] w fun e w' => e = .returned (.pointer none) ∧ w' = w := by
  go_enter Tryd.func23, Tryd.ntmps23
  go_wp2
  go_ret
  exact ⟨rfl, rfl⟩
set_option maxRecDepth 100000 in
theorem new_no (N : Nat) (w : World) (h1 : 65536 ≤ N) (h2 : N ≤ 1073741824) (hp : pop N ≠ 1) : Calls Tryd.prog 23 #[.int .i64 (N : Int)] w fun e w' => e = .returned (.pointer none) ∧ w' = w := by
  have i1 : (65536 : Int) ≤ (N : Int) := by omega
  have i2 : (N : Int) ≤ 1073741824 := by omega
  obtain ⟨p, hpe⟩ : ∃ p, pop N = p := ⟨_, rfl⟩
  rw [hpe] at hp
  have Hp := Lib.hid hpe
  have i3 : ((p : Int) != 1) = true := by simp; omega
  have i4 : ¬ (p : Int) = 1 := by omega
  clear hpe
  go_enter Tryd.func23, Tryd.ntmps23
  go_wp2_with (go_at_call 46; refine (onescount_any N (by omega) _).mono ?_; rintro e w' ⟨rfl, rfl⟩; rw [Hp.out])
  go_ret
  exact ⟨rfl, rfl⟩
theorem pop_64k : pop 65536 = 1 := by decide +kernel
end Go.Proofs.YtflkoabgkgegjaaDoor.Ar
/- The pool's state; Cost, Has, Arena, Quota, Used. Condition: the pool's state, and the table of costs holds what its text says. -/
namespace Go.Proofs.YtflkoabgkgegjaaDoor
open Go.RowKit Go.Maps

/-- the table of costs holds what its text says -/
def TabC (w : World) : Prop := ∀ j, j < 8 → w.cell? ⟨0, j, none⟩ = some (.int .i64 ((szC j : Nat) : Int))
theorem TabC.lt {w : World} (h : TabC w) : 0 < w.heap.size := World.block_lt_of_cell? w ⟨0, 0, none⟩ (h 0 (by omega))
theorem TabC.below {w w' : World} {B : Nat} (h : TabC w) (hB : 0 < B) (hb : Below B w w') : TabC w' := fun k hk => (hb.cell (p := ⟨0, k, none⟩) hB).trans (h k hk)
def costI (X : Int) : Nat := if 0 ≤ X ∧ X < 8 then szC X.toNat else 0
theorem cost_cls {k : Nat} (hk : k ∈ cls) : costI (k : Int) = szC k := by
  have := cls_facts k hk
  unfold costI
  rw [if_pos (by omega), Int.toNat_natCast]
theorem cost_no {X : Int} (h : ∀ k ∈ cls, X ≠ (k : Int)) : costI X = 0 := by
  unfold costI
  split
  · rename_i q
    by_cases e : X = 0
    · subst e; rfl
    · have h1 : X.toNat ∈ cls := by
        have : X.toNat = 1 ∨ X.toNat = 2 ∨ X.toNat = 3 ∨ X.toNat = 4 ∨ X.toNat = 5 ∨ X.toNat = 6 ∨ X.toNat = 7 := by omega
        simp only [cls, List.mem_cons, List.not_mem_nil, or_false]
        exact this
      exact absurd (by omega) (h X.toNat h1)
  · rfl
set_option maxRecDepth 100000 in
theorem pcost (X : Int) (w : World) (hT : TabC w) (n : Int) (hn : (costI X : Int) = n) : Calls Tryd.prog 25 #[.int .i64 X] w fun e w' => e = .returned (.int .i64 n) ∧ w' = w := by
  subst hn
  by_cases h1 : X < 0
  · have t1 : decide (X < 0) = true := decide_eq_true h1
    have e : costI X = 0 := by unfold costI; rw [if_neg (by omega)]
    rw [e]
    clear e h1 hT
    go_enter Tryd.func25, Tryd.ntmps25
    go_wp2
    go_ret
    exact ⟨rfl, rfl⟩
  have t1 : decide (X < 0) = false := decide_eq_false h1
  by_cases h2 : 8 ≤ X
  · have t2 : decide (8 ≤ X) = true := decide_eq_true h2
    have e : costI X = 0 := by unfold costI; rw [if_neg (by omega)]
    rw [e]
    clear e h1 h2 hT
    go_enter Tryd.func25, Tryd.ntmps25
    go_wp2
    go_ret
    exact ⟨rfl, rfl⟩
  have t2 : decide (8 ≤ X) = false := decide_eq_false h2
  have e : costI X = szC X.toNat := by unfold costI; rw [if_pos (by omega)]
  have hc := hT X.toNat (by omega)
  have i0 : (0 : Int) ≤ X := by omega
  have i1 : X < 8 := by omega
  rw [e]
  clear e h1 h2 hT
  go_enter Tryd.func25, Tryd.ntmps25
  go_wp2
  go_ret
  exact ⟨rfl, rfl⟩
/-- a cache's place in the pool's row -/
def cP (c : Nat → Nat) (m j : Nat) : Value := if 1 ≤ j ∧ j < m then .pointer (some ⟨c j, 0, none⟩) else .pointer none
def plRow (tb b ga : Nat) (c : Nat → Nat) (m : Nat) : Array Value := #[.pointer (some ⟨tb, 0, none⟩), .pointer (some ⟨b, 0, none⟩), .pointer (some ⟨ga, 0, none⟩), cP c m 0, cP c m 1, cP c m 2, cP c m 3, cP c m 4, cP c m 5, cP c m 6, cP c m 7]
def qObj (fb : Nat) : Obj := .map #[⟨.int .i64 0, .pointer (some ⟨fb, 0, none⟩), 0⟩] 1
/-- a pool: its caches over its allocator, its quota, its arena -/
structure PL (W w : World) (pb tb qm fb ga gb b : Nat) (c : Nat → Nat) (L n : Nat) (l : List Tl) (P : Nat → List Pg) (f : Nat → Nat) (C : Nat) : Prop where
  fam : SGF W [(qm, qObj fb)] w cls c szC mC b 6 n l P
  row : w.heap[pb]? = some (.cells (plRow tb b ga c 8) 62 (0, 0))
  qu : QuAt w tb qm fb (L : Int) (C : Int)
  ar : Ar.ArAt w ga gb 65536 f
  lay : FLay l P
  le : C ≤ L ∧ L ≤ 65536
  new : W.heap.size ≤ fb ∧ W.heap.size ≤ gb
section
variable {W w w' : World} {pb tb qm fb ga gb b : Nat} {c : Nat → Nat} {L n : Nat} {l : List Tl} {P : Nat → List Pg} {f : Nat → Nat} {C : Nat}
theorem one_mem : 1 ∈ cls := by decide
theorem PL.below (h : PL W w pb tb qm fb ga gb b c L n l P f C) (hb : Below w.heap.size w w') : PL W w' pb tb qm fb ga gb b c L n l P f C :=
  ⟨h.fam.below hb, (hb.block _ (blt h.row)).trans h.row, h.qu.below hb, h.ar.below hb, h.lay, h.le, h.new⟩
theorem PL.monon {n' : Nat} (h : PL W w pb tb qm fb ga gb b c L n l P f C) (hn : n ≤ n') : PL W w pb tb qm fb ga gb b c L n' l P f C :=
  ⟨h.fam.monon hn, h.row, h.qu, h.ar, h.lay, h.le, h.new⟩
theorem PL.way (h : PL W w pb tb qm fb ga gb b c L n l P f C) : Below W.heap.size W w := (h.fam.at one_mem).way
theorem PL.r0 (h : PL W w pb tb qm fb ga gb b c L n l P f C) : w.cell? ⟨pb, 0, none⟩ = some (.pointer (some ⟨tb, 0, none⟩)) := (cell_of_row _ _ 0 _ _ _ h.row).trans rfl
theorem PL.r1 (h : PL W w pb tb qm fb ga gb b c L n l P f C) : w.cell? ⟨pb, 1, none⟩ = some (.pointer (some ⟨b, 0, none⟩)) := (cell_of_row _ _ 1 _ _ _ h.row).trans rfl
theorem PL.r2 (h : PL W w pb tb qm fb ga gb b c L n l P f C) : w.cell? ⟨pb, 2, none⟩ = some (.pointer (some ⟨ga, 0, none⟩)) := (cell_of_row _ _ 2 _ _ _ h.row).trans rfl
theorem plRow_at (tb b ga : Nat) (c : Nat → Nat) (m : Nat) : ∀ j, j < 8 → (plRow tb b ga c m)[3 + j]? = some (cP c m j)
  | 0, _ => rfl | 1, _ => rfl | 2, _ => rfl | 3, _ => rfl | 4, _ => rfl | 5, _ => rfl | 6, _ => rfl | 7, _ => rfl
theorem PL.rk (h : PL W w pb tb qm fb ga gb b c L n l P f C) {k : Nat} (hk : k ∈ cls) : w.cell? ⟨pb, 3 + k, none⟩ = some (.pointer (some ⟨c k, 0, none⟩)) := by
  have := cls_facts k hk
  rw [cell_of_row _ _ _ _ _ _ h.row, plRow_at _ _ _ _ _ k (by omega)]
  unfold cP
  rw [if_pos (by omega)]
/-- a cache of the pool is used -/
theorem PL.use (h : PL W w pb tb qm fb ga gb b c L n l P f C) {k : Nat} (hk : k ∈ cls) : ∃ K', SG W K' w (c k) b (szC k) (mC k) 6 n l (P k) ∧ ∀ w' n' l' P', SG W K' w' (c k) b (szC k) (mC k) 6 n' l' P' → FLay l' (updF P k P') → PL W w' pb tb qm fb ga gb b c L n' l' (updF P k P') f C ∧ Keep w w' := by
  obtain ⟨K', h1, h2⟩ := h.fam.use hk
  refine ⟨K', h1, fun w' n' l' P' hs hl => ?_⟩
  obtain ⟨h3, h4⟩ := h2 w' n' l' P' hs
  have hq := h3.kept one_mem (qm, qObj fb) (List.mem_singleton.2 rfl)
  obtain ⟨a1, ⟨cs, a2, a3⟩, a4, a5⟩ := h.ar
  have hc : w'.heap[gb]? = some (.cells cs 5 (0, 0)) := h4 _ _ _ a2 ⟨by decide, by decide, by decide⟩
  refine ⟨⟨h3, h4 _ _ _ h.row ⟨by decide, by decide, by decide⟩, ⟨h4 _ _ _ h.qu.tree ⟨by decide, by decide, by decide⟩, hq, h4 _ _ _ h.qu.fac ⟨by decide, by decide, by decide⟩⟩, ⟨h4 _ _ _ a1 ⟨by decide, by decide, by decide⟩, ⟨cs, hc, a3⟩, fun i hi => ?_, a5⟩, hl, h.le, h.new⟩, h4⟩
  have := a4 i hi
  rw [cell_of_row _ _ _ _ _ _ a2] at this
  rw [cell_of_row _ _ _ _ _ _ hc, this]
theorem updF_eta {α : Type} (g : Nat → α) (k : Nat) : updF g k (g k) = g := by
  funext j
  unfold updF
  split
  · rename_i e; rw [e]
  · rfl
set_option maxRecDepth 100000 in
theorem phas (h : PL W w pb tb qm fb ga gb b c L n l P f C) (hC : TabC W) {k : Nat} (hk : k ∈ cls) (K : Int) (hK : (k : Int) = K) (X : Int) (hX : (Lit.int .i64 X).wf = true) (r : Bool) (hr : r = true ↔ X ∈ usedC (mC k) (szC k) (P k)) :
    Calls Tryd.prog 30 #[.pointer (some ⟨pb, 0, none⟩), .int .i64 K, .int .i64 X] w fun e w' => e = .returned (.bool r) ∧ PL W w' pb tb qm fb ga gb b c L n l P f C ∧ Keep w w' := by
  have hcf := cls_facts k hk
  have HH := Lib.hid h
  have HT : Hid (TabC w) := Lib.hid (hC.below hC.lt h.way)
  have HR := Lib.hid hr
  have HX := Lib.hid hX
  have HK := Lib.hid hk
  have HC : Hid ((costI K : Int) = ((szC k : Nat) : Int)) := Lib.hid (by rw [← hK, cost_cls hk])
  obtain ⟨z, hz⟩ : ∃ z : Int, ((szC k : Nat) : Int) = z := ⟨_, rfl⟩
  have t1 : decide (0 < z) = true := decide_eq_true (by omega)
  have i0 : (0 : Int) ≤ K := by omega
  have i1 : K < 8 := by omega
  have rk : w.cell? ⟨pb, 3 + K.toNat, none⟩ = some (.pointer (some ⟨c k, 0, none⟩)) := by
    rw [show K.toNat = k by omega]
    exact h.rk hk
  rw [hz] at HC
  clear h hC hr hX hk hcf hz hK
  go_enter Tryd.func30, Tryd.ntmps30
  go_wp2_with fail
  refine (pcost K _ HT.out z HC.out).mono ?_
  rintro e w' ⟨rfl, hw⟩
  have hw2 := hw.symm
  clear hw
  subst hw2
  go_wp2_with fail
  obtain ⟨K', u1, u2⟩ := HH.out.use HK.out
  have hcf := cls_facts k HK.out
  refine (has_s u1 (HH.out.lay.lay k HK.out) (by omega) hcf.2.1 hcf.2.2.1 X HX.out r HR.out).mono ?_
  rintro e w2 ⟨rfl, h2⟩
  obtain ⟨h3, h4⟩ := u2 _ _ _ _ h2 (by rw [updF_eta]; exact HH.out.lay)
  rw [updF_eta] at h3
  have H3 := Lib.hid h3
  have H4 := Lib.hid h4
  clear h2 h3 h4 hcf u1 u2
  go_wp2
  go_ret
  exact ⟨rfl, H3.out, H4.out⟩
set_option maxRecDepth 100000 in
theorem parena (h : PL W w pb tb qm fb ga gb b c L n l P f C) : Calls Tryd.prog 19 #[.pointer (some ⟨pb, 0, none⟩)] w fun e w' => e = .returned (.pointer (some ⟨ga, 0, none⟩)) ∧ w' = w := by
  have r2 := h.r2
  clear h
  go_enter Tryd.func19, Tryd.ntmps19
  go_wp2
  go_ret
  exact ⟨rfl, rfl⟩
set_option maxRecDepth 100000 in
theorem pquota (h : PL W w pb tb qm fb ga gb b c L n l P f C) : Calls Tryd.prog 13 #[.pointer (some ⟨pb, 0, none⟩)] w fun e w' => e = .returned (.pointer (some ⟨tb, 0, none⟩)) ∧ w' = w := by
  have r0 := h.r0
  clear h
  go_enter Tryd.func13, Tryd.ntmps13
  go_wp2
  go_ret
  exact ⟨rfl, rfl⟩
end
end Go.Proofs.YtflkoabgkgegjaaDoor
/- The pool's Get. Condition: the pool's state, and the tables hold what their texts say. -/
namespace Go.Proofs.YtflkoabgkgegjaaDoor
open Go.RowKit Go.Maps

/-- the types of the blocks that a pool writes not -/
def OffP (t : TypeId) : Prop := OffT t ∧ t ≠ 82 ∧ t ≠ 5
def KeepP (w w' : World) : Prop := ∀ (x : Nat) (cs : Array Value) (t : TypeId), w.heap[x]? = some (.cells cs t (0, 0)) → OffP t → w'.heap[x]? = some (.cells cs t (0, 0))
theorem Keep.p {w w' : World} (h : Keep w w') : KeepP w w' := fun x cs t hx ht => h x cs t hx ht.1
theorem KeepP.of_below {w w' : World} (h : Below w.heap.size w w') : KeepP w w' := (Keep.of_below h).p
theorem KeepP.trans {a b c : World} (h1 : KeepP a b) (h2 : KeepP b c) : KeepP a c := fun x cs t hx ht => h2 x cs t (h1 x cs t hx ht) ht
theorem KeepP.of_grown {w w' : World} {g : Nat} {ds : Array Value} {u : TypeId} (h : w.grownBy w' (some g)) (hg : w.heap[g]? = some (.cells ds u (0, 0))) (hu : ¬ OffP u) : KeepP w w' := fun x cs t hx ht =>
  (h.block x (blt hx) (fun e => by
    injection e with e
    subst e
    rw [hx] at hg
    injection hg with hg
    injection hg with _ hg
    subst hg
    exact hu ht)).trans hx
theorem fac_off : ¬ OffP 82 := fun h => h.2.1 rfl
theorem u8_off : ¬ OffP 5 := fun h => h.2.2 rfl
/-- a used place lies in the arena -/
theorem used_place {M size : Nat} {l : List Tl} {P : List Pg} (hl : Lay 6 M l P) (hg : Good 6 l) (hM : M = 960 / size) (h16 : size % 16 = 0) {X : Int} (hX : X ∈ usedC M size P) : ∃ a : Nat, X = (a : Int) ∧ a + size ≤ 65536 ∧ a % 16 = 0 ∧ 64 ≤ a := by
  obtain ⟨p, hp, j, hj, _, rfl⟩ := mem_usedC.1 hX
  have h1 := (blks_lt (hl.mem p hp)).2
  have h2 := hg.all
  simp only at h1
  have h3 := place_end hM hj
  refine ⟨1024 * p.q + 64 + j * size, rfl, by omega, ?_, by omega⟩
  obtain ⟨m, hm⟩ : ∃ m, size = 16 * m := ⟨size / 16, by omega⟩
  rw [hm, show j * (16 * m) = 16 * (j * m) by rw [Nat.mul_left_comm]]
  omega
theorem sz16 {k : Nat} (hk : k ∈ cls) : szC k % 16 = 0 := by revert k; decide
section
variable {W w w' : World} {pb tb qm fb ga gb b : Nat} {c : Nat → Nat} {L n : Nat} {l : List Tl} {P : Nat → List Pg} {f : Nat → Nat} {C : Nat}
theorem PL.good (h : PL W w pb tb qm fb ga gb b c L n l P f C) : Good 6 l := (h.fam.at one_mem).good
theorem PL.wf (h : PL W w pb tb qm fb ga gb b c L n l P f C) {k : Nat} (hk : k ∈ cls) : ∀ p ∈ P k, WF (mC k) p.ws := (h.fam.at hk).wf
theorem PL.rise (h : PL W w pb tb qm fb ga gb b c L n l P f C) {k : Nat} (hk : k ∈ cls) : RisesQ (P k) := (h.fam.at hk).rise
theorem PL.nq (h : PL W w pb tb qm fb ga gb b c L n l P f C) {x : Nat} {cs : Array Value} {t : TypeId} (hx : w.heap[x]? = some (.cells cs t (0, 0))) : ∀ y ∈ [(qm, qObj fb)], y.1 ≠ x := fun y hy e => by
  rw [List.mem_singleton.1 hy] at e
  simp only at e
  subst e
  have h1 := h.qu.map
  rw [hx] at h1
  cases h1
/-- what was charged turns -/
theorem PL.charged (h : PL W w pb tb qm fb ga gb b c L n l P f C) {C' : Nat} (hg : w.grownBy w' (some fb)) (hq : QuAt w' tb qm fb (L : Int) (C' : Int)) (hC : C' ≤ L) : PL W w' pb tb qm fb ga gb b c L n l P f C' ∧ KeepP w w' := by
  have hk := KeepP.of_grown hg h.qu.fac fac_off
  obtain ⟨a1, ⟨cs, a2, a3⟩, a4, a5⟩ := h.ar
  have hc : w'.heap[gb]? = some (.cells cs 5 (0, 0)) := (hg.block _ (blt a2) (fun e => two_types a2 h.qu.fac (by decide) (by injection e))).trans a2
  refine ⟨⟨h.fam.otherK h.qu.fac h.new.1 (h.nq h.qu.fac) (by decide) (by decide) (by decide) (by decide) (by decide) hg, hk _ _ _ h.row ⟨⟨by decide, by decide, by decide⟩, by decide, by decide⟩, hq, ⟨hk _ _ _ a1 ⟨⟨by decide, by decide, by decide⟩, by decide, by decide⟩, ⟨cs, hc, a3⟩, fun i hi => ?_, a5⟩, h.lay, ⟨hC, h.le.2⟩, h.new⟩, hk⟩
  have := a4 i hi
  rw [cell_of_row _ _ _ _ _ _ a2] at this
  rw [cell_of_row _ _ _ _ _ _ hc, this]
/-- the arena's bytes turn -/
theorem PL.wrote (h : PL W w pb tb qm fb ga gb b c L n l P f C) {f' : Nat → Nat} (hg : w.grownBy w' (some gb)) (ha : Ar.ArAt w' ga gb 65536 f') : PL W w' pb tb qm fb ga gb b c L n l P f' C ∧ KeepP w w' := by
  obtain ⟨a1, ⟨cs, a2, a3⟩, a4, a5⟩ := h.ar
  have hk := KeepP.of_grown hg a2 u8_off
  have hm : w'.heap[qm]? = some (qObj fb) := (hg.block _ (by
    have := h.qu.map
    rcases Nat.lt_or_ge qm w.heap.size with q | q
    · exact q
    · rw [Array.getElem?_eq_none q] at this; cases this) (fun e => h.nq a2 _ (List.mem_singleton.2 rfl) (by injection e))).trans h.qu.map
  exact ⟨⟨h.fam.otherK a2 h.new.2 (h.nq a2) (by decide) (by decide) (by decide) (by decide) (by decide) hg, hk _ _ _ h.row ⟨⟨by decide, by decide, by decide⟩, by decide, by decide⟩, ⟨hk _ _ _ h.qu.tree ⟨⟨by decide, by decide, by decide⟩, by decide, by decide⟩, hm, (hg.block _ (blt h.qu.fac) (fun e => two_types h.qu.fac a2 (by decide) (by injection e))).trans h.qu.fac⟩, ha, h.lay, h.le, h.new⟩, hk⟩
theorem pget_arg (X : Int) (hX : costI X = 0) (x : Int) (w : World) (hC : TabC w) : Calls Tryd.prog 8 #[.pointer (some ⟨pb, 0, none⟩), .int .i64 x, .int .i64 X] w fun e w' => e = .returned (.tuple #[.int .i64 0, .int .i64 1]) ∧ w' = w := by
  have HT := Lib.hid hC
  have HC : Hid ((costI X : Int) = 0) := Lib.hid (by rw [hX]; rfl)
  clear hC hX
  go_enter Tryd.func8, Tryd.ntmps8
  go_wp2_with fail
  refine (pcost X _ HT.out 0 HC.out).mono ?_
  rintro e w' ⟨rfl, hw⟩
  have hw2 := hw.symm
  clear hw
  subst hw2
  go_wp2
  go_ret2
  exact ⟨rfl, rfl⟩
set_option maxRecDepth 100000 in
set_option maxHeartbeats 3200000 in
theorem pget_quota (h : PL W w pb tb qm fb ga gb b c L n l P f C) (hC : TabC W) {k : Nat} (hk : k ∈ cls) (K : Int) (hK : (k : Int) = K) (hq : L < C + szC k) : Calls Tryd.prog 8 #[.pointer (some ⟨pb, 0, none⟩), .int .i64 0, .int .i64 K] w fun e w' => e = .returned (.tuple #[.int .i64 0, .int .i64 5]) ∧ Below w.heap.size w w' := by
  have hcf := cls_facts k hk
  have HH := Lib.hid h
  have HT : Hid (TabC w) := Lib.hid (hC.below hC.lt h.way)
  have HC : Hid ((costI K : Int) = ((szC k : Nat) : Int)) := Lib.hid (by rw [← hK, cost_cls hk])
  obtain ⟨z, hz⟩ : ∃ z : Int, ((szC k : Nat) : Int) = z := ⟨_, rfl⟩
  have HZ := Lib.hid hz
  have HQ := Lib.hid hq
  have t1 : (z == 0) = false := by simp only [beq_eq_false_iff_ne, ne_eq]; omega
  have r0 := h.r0
  rw [hz] at HC
  clear h hC hk hcf hz hK hq
  go_enter Tryd.func8, Tryd.ntmps8
  go_wp2_with fail
  refine (pcost K _ HT.out z HC.out).mono ?_
  rintro e w' ⟨rfl, hw⟩
  have hw2 := hw.symm
  clear hw
  subst hw2
  go_wp2_with fail
  have hd := HH.out.below (Below.refl _ _).drew
  have hTd : TabC w.drew := HT.out
  go_region_held3 (fun w' => w'.cell? ⟨pb, 0, none⟩ = some (.pointer (some ⟨tb, 0, none⟩))) (first | (exact PL.r0 (by assumption))) (first | (go_at_call 25; (with_reducible refine (pcost K _ hTd z HC.out).mono ?_); rintro e w8 ⟨rfl, rfl⟩) | (go_at_call 26; (with_reducible refine (qcharge_no (PL.qu (by assumption)) HH.out.le.1 (by have := HH.out.le.2; omega) (szC k) HQ.out z HZ.out.symm).mono ?_); rintro e w9 ⟨rfl, h9⟩; have h10 := PL.below (by assumption) h9))
  all_goals
    have HB := Lib.hid ((Below.refl w.heap.size w).drew.trans (h9.mono (Nat.le_refl _)))
    clear hd hTd h9 h10
    go_wp2
    go_ret2
    exact ⟨rfl, HB.out⟩
end
end Go.Proofs.YtflkoabgkgegjaaDoor
