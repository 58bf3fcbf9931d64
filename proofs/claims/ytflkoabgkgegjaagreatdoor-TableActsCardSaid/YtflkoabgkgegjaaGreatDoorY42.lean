/- Arrays of words beside a table; what the laws' acts are in memory. Condition: the table's state. And what follows from it. -/
import Derived.Test.YtflkoabgkgegjaaGreatDoorY41
/- Arrays of words beside a table; what the laws' acts are in memory. Condition: the table's state. -/
namespace Go.Proofs.YtflkoabgkgegjaaGreatDoor
open Go.RowKit Go.Maps

/-- an array of 256 words -/
def AR (w : World) (ab : Nat) (A : Nat → Nat) : Prop := ∃ cs : Array Value, w.heap[ab]? = some (.cells cs 46 (0, 0)) ∧ cs.size = 256 ∧ ∀ i, i < 256 → cs[i]? = some (.int .u64 ((A i : Nat) : Int))
section
variable {w w' : World} {ab : Nat} {A : Nat → Nat}
theorem arr_off : OffP 46 := ⟨⟨by decide, by decide, by decide⟩, by decide, by decide⟩
theorem AR.keep (h : AR w ab A) (hk : KeepP w w') : AR w' ab A := by
  obtain ⟨cs, h1, h2, h3⟩ := h
  exact ⟨cs, hk _ _ _ h1 arr_off, h2, h3⟩
theorem AR.cell (h : AR w ab A) {i : Nat} (hi : i < 256) : w.cell? ⟨ab, i, none⟩ = some (.int .u64 ((A i : Nat) : Int)) := by
  obtain ⟨cs, h1, h2, h3⟩ := h
  rw [cell_of_row _ _ _ _ _ _ h1, h3 i hi]
theorem AR.froz (h : AR w ab A) (i : Nat) : w.frozen? ⟨ab, i, none⟩ = false := by
  obtain ⟨cs, h1, h2, h3⟩ := h
  exact frozen_of_row _ _ _ _ _ h1
theorem AR.set (h : AR w ab A) {i : Nat} (hi : i < 256) (x : Nat) (X : Int) (hX : (x : Int) = X) : AR (w.setCell ⟨ab, i, none⟩ (.int .u64 X)) ab (updF A i x) := by
  subst hX
  obtain ⟨cs, h1, h2, h3⟩ := h
  refine ⟨cs.setIfInBounds i (.int .u64 (x : Int)), heap_setCell_same w ab i _ _ _ h1, by simp [h2], fun j hj => ?_⟩
  by_cases e : j = i
  · subst e
    rw [updF_same]
    simp [h2, hj]
  · rw [updF_other _ _ e, Array.getElem?_setIfInBounds_ne (Ne.symm e)]
    exact h3 j hj
theorem AR.other (h : AR w ab A) {x : Nat} (hne : ab ≠ x) (hg : w.grownBy w' (some x)) : AR w' ab A := by
  obtain ⟨cs, h1, h2, h3⟩ := h
  exact ⟨cs, (hg.block _ (blt h1) (fun e => hne (by injection e))).trans h1, h2, h3⟩
end
section
variable {W w w' : World} {pb tb qm fb ga gb b : Nat} {c : Nat → Nat} {xb at_ L n : Nat} {l : List Tl} {P : Nat → List Pg} {f : Nat → Nat} {C : Nat} {lf A B : Nat → Nat}
/-- a block that is none of the pool's turns -/
theorem PL.other (h : PL W w pb tb qm fb ga gb b c L n l P f C) {x : Nat} {cs : Array Value} (hx : w.heap[x]? = some (.cells cs 46 (0, 0))) (hw : W.heap.size ≤ x) (hg : w.grownBy w' (some x)) : PL W w' pb tb qm fb ga gb b c L n l P f C := by
  have st : ∀ {y : Nat} {ds : Array Value} {u : TypeId}, w.heap[y]? = some (.cells ds u (0, 0)) → u ≠ 46 → w'.heap[y]? = some (.cells ds u (0, 0)) := fun hd ht => (hg.block _ (blt hd) (fun e2 => two_types hd hx ht (by injection e2))).trans hd
  obtain ⟨a1, ⟨ds, a2, a3⟩, a4, a5⟩ := h.ar
  have hm : w'.heap[qm]? = some (qObj fb) := (hg.block _ (by
    have := h.qu.map
    rcases Nat.lt_or_ge qm w.heap.size with q | q
    · exact q
    · rw [Array.getElem?_eq_none q] at this; cases this) (fun e => h.nq hx _ (List.mem_singleton.2 rfl) (by injection e))).trans h.qu.map
  refine ⟨h.fam.otherK hx hw (h.nq hx) (by decide) (by decide) (by decide) (by decide) (by decide) hg, st h.row (by decide), ⟨st h.qu.tree (by decide), hm, st h.qu.fac (by decide)⟩, ⟨st a1 (by decide), ⟨ds, st a2 (by decide), a3⟩, fun i hi => ?_, a5⟩, h.lay, h.le, h.new⟩
  have := a4 i hi
  rw [cell_of_row _ _ _ _ _ _ a2] at this
  rw [cell_of_row _ _ _ _ _ _ (st a2 (by decide)), this]
theorem TS.other (h : TS W w pb tb qm fb ga gb b c xb at_ L n l P f C lf A B) {x : Nat} {cs : Array Value} (hx : w.heap[x]? = some (.cells cs 46 (0, 0))) (hw : W.heap.size ≤ x) (hg : w.grownBy w' (some x)) : TS W w' pb tb qm fb ga gb b c xb at_ L n l P f C lf A B :=
  ⟨h.pl.other hx hw hg, (hg.block _ (blt h.row) (fun e2 => two_types h.row hx (by decide) (by injection e2))).trans h.row, h.rel, h.pat, h.plf, h.inj, h.ab⟩
theorem Alone.most (al : Alone l P lf A C) : C ≤ 4224 := by
  have := leavesL_length lf 16
  rw [al.cost]
  omega
/-- Set, where the limit is no bar -/
theorem tset_ok (h : TS W w pb tb qm fb ga gb b c xb at_ L n l P f C lf A B) (al : Alone l P lf A C) (hL : 4480 ≤ L) (hZ : TabZ W) (hC : TabC W) (hn : n < 1000) (s x y : Nat) (hs : s < 256) (hx : x < 18446744073709551616) (hy : y < 18446744073709551616) (hx0 : x ≠ 0) (S X Y : Int) (hS : (s : Int) = S) (hX : (x : Int) = X) (hY : (y : Int) = Y) :
    Calls Tryz.prog 6 #[.pointer (some ⟨xb, 0, none⟩), .int .i64 S, .int .u64 X, .int .u64 Y] w fun e w' => e = .returned (.int .i64 0) ∧ ∃ l' P' f' C' lf', TS W w' pb tb qm fb ga gb b c xb at_ L (n + 1) l' P' f' C' lf' (updF A s x) (updF B s y) ∧ Alone l' P' lf' (updF A s x) C' ∧ KeepP w w' := by
  refine (tset h hZ hC hn s x y hs hx hy hx0 S X Y hS hX hY).mono ?_
  rintro e w' ⟨er, l', P', f', C', lf', A', B', rfl, hr, h2, k2⟩
  obtain ⟨al2, hcase⟩ := al.set h hr hx0 hs
  rcases hcase with ⟨rfl, rfl, rfl, _⟩ | ⟨_, _, hbad, _⟩
  · exact ⟨rfl, l', _, f', C', lf', h2, al2, k2⟩
  · exact absurd hbad (by have := al.most; omega)
theorem tclear_ok (h : TS W w pb tb qm fb ga gb b c xb at_ L n l P f C lf A B) (al : Alone l P lf A C) (hC : TabC W) (s : Nat) (hs : s < 256) (E S : Int) (hE : E = if A s = 0 then 6 else 0) (hS : (s : Int) = S) :
    Calls Tryz.prog 7 #[.pointer (some ⟨xb, 0, none⟩), .int .i64 S] w fun e w' => e = .returned (.int .i64 E) ∧ ∃ l' P' f' C' lf' B', TS W w' pb tb qm fb ga gb b c xb at_ L n l' P' f' C' lf' (updF A s 0) B' ∧ Alone l' P' lf' (updF A s 0) C' ∧ KeepP w w' := by
  by_cases q : A s = 0
  · rw [if_pos q] at hE
    subst hE
    refine (tclear_none h s hs q S hS).mono ?_
    rintro e w' ⟨rfl, rfl⟩
    have e : updF A s 0 = A := by rw [← q]; exact updF_eta A s
    rw [e]
    exact ⟨rfl, l, P, f, C, lf, B, h, al, fun x cs t hx _ => hx⟩
  · rw [if_neg q] at hE
    subst hE
    refine (tclear_yes h hC s hs q (al.pay h q hs) S hS).mono ?_
    rintro e w' ⟨rfl, l', P', f', C', lf', A', B', hr, h2, k2⟩
    obtain ⟨al2, rfl, rfl⟩ := al.clear h hr q hs
    exact ⟨rfl, l', _, f', C', lf', _, h2, al2, k2⟩
end
/-- the laws' acts in memory -/
structure Ac where
  kind : Int
  slot : Int
  a : Nat
  b : Nat
def acCells (l : List Ac) : List Value := l.flatMap fun x => [.int .i64 x.kind, .int .i64 x.slot, .int .u64 (x.a : Int), .int .u64 (x.b : Int)]
theorem acCells_length : ∀ l : List Ac, (acCells l).length = l.length * 4
  | [] => rfl
  | x :: l => by
    have := acCells_length l
    simp only [acCells, List.flatMap_cons, List.length_append, List.length_cons, List.length_nil] at this ⊢
    omega
theorem acCells_at : ∀ (l : List Ac) (k : Nat) (x : Ac), l[k]? = some x → (acCells l)[k * 4]? = some (.int .i64 x.kind) ∧ (acCells l)[k * 4 + 1]? = some (.int .i64 x.slot) ∧ (acCells l)[k * 4 + 2]? = some (.int .u64 (x.a : Int)) ∧ (acCells l)[k * 4 + 3]? = some (.int .u64 (x.b : Int))
  | [], k, x, h => by simp at h
  | y :: l, 0, x, h => by
    simp only [List.getElem?_cons_zero, Option.some.injEq] at h
    subst h
    exact ⟨rfl, rfl, rfl, rfl⟩
  | y :: l, k + 1, x, h => by
    have := acCells_at l k x (by simpa using h)
    simp only [acCells, List.flatMap_cons] at this ⊢
    rw [show (k + 1) * 4 = k * 4 + 4 by omega, show k * 4 + 4 + 1 = k * 4 + 1 + 4 by omega, show k * 4 + 4 + 2 = k * 4 + 2 + 4 by omega, show k * 4 + 4 + 3 = k * 4 + 3 + 4 by omega]
    exact this
theorem SlR.ac {w : World} {A : Option Addr} {l : List Ac} (h : SlR w A (acCells l)) {k : Nat} (hk : k < l.length) : ∃ b off, A = some ⟨b, off, none⟩ ∧ b < w.heap.size ∧ w.cell? ⟨b, off + k * 4, none⟩ = some (.int .i64 l[k].kind) ∧ w.cell? ⟨b, off + k * 4 + 1, none⟩ = some (.int .i64 l[k].slot) ∧ w.cell? ⟨b, off + k * 4 + 2, none⟩ = some (.int .u64 (l[k].a : Int)) ∧ w.cell? ⟨b, off + k * 4 + 3, none⟩ = some (.int .u64 (l[k].b : Int)) := by
  obtain ⟨b, off, e, hlt, hc⟩ := h (fun e => by have := acCells_length l; rw [e] at this; simp at this; omega)
  have h2 := acCells_at l k l[k] (List.getElem?_eq_getElem hk)
  exact ⟨b, off, e, hlt, hc _ _ h2.1, by rw [Nat.add_assoc]; exact hc _ _ h2.2.1, by rw [Nat.add_assoc]; exact hc _ _ h2.2.2.1, by rw [Nat.add_assoc]; exact hc _ _ h2.2.2.2⟩
end Go.Proofs.YtflkoabgkgegjaaGreatDoor
/- Both tables: the start, and an act beside them. Condition: both states. -/
namespace Go.Proofs.YtflkoabgkgegjaaGreatDoor
open Go.RowKit Go.Maps
section
variable {W w w' : World} {pb tb qm fb ga gb b : Nat} {c : Nat → Nat} {xb at_ L : Nat} {rp rt fq g : Nat} {r : Nat → Nat} {tp n : Nat}
/-- the first place of both pools -/
theorem td_first (h : PL W w pb tb qm fb ga gb b c L 0 [(6, true)] (fun _ => []) (fun _ => 0) 0) (hZ : TabZ W) (hC : TabC W) (hL : 128 ≤ L) (hR : RP W.heap.size w rp rt fq g r [(6, true)] (SLf fun _ => []) (ULf fun _ => []) L 0) :
    Calls Tryz.prog 14 #[.pointer (some ⟨pb, 0, none⟩), .int .i64 0, .int .i64 2] w fun e w' => ∃ (X : Int) (a : Nat) (l' : List Tl) (P' : List Pg), X = (a : Int) ∧ X ∈ usedC (mC 2) (szC 2) P' ∧ e = .returned (.tuple #[.int .i64 X, .int .i64 0]) ∧ ∀ w2, Below w'.heap.size w' w2 →
      Calls Tryz.prog 15 #[.pointer (some ⟨rp, 0, none⟩), .int .i64 0, .int .i64 2] w2 fun e w3 => e = .returned (.tuple #[.int .i64 X, .int .i64 0]) ∧ PL W w3 pb tb qm fb ga gb b c L 1 l' (updF (fun _ => []) 2 P') (Ar.fillF (fun _ => 0) a 128 0) 128 ∧ RP W.heap.size w3 rp rt fq g r l' (SLf (updF (fun _ => []) 2 P')) (ULf (updF (fun _ => []) 2 P')) L 128 := by
  refine (pget h hZ hC (by omega) two_mem 2 rfl).mono ?_
  rintro e w' ⟨x, er, l', P', f', C', rfl, hg, h2, k2⟩
  have hr := fun w2 (hb : Below w'.heap.size w' w2) => rget h two_mem hg h2 ((hR.keep k2).below hb) 2 rfl
  cases hg with
  | quota hq => exact absurd hq (by have : szC 2 = 128 := rfl; omega)
  | none _ _ ht => exact absurd (full_none ht (6, true) List.mem_cons_self) (by decide)
  | yes hq a ha l' P' ht =>
    have hcf := cls_facts 2 two_mem
    have hus := ht.used (P := []) (h.lay.lay 2 two_mem) List.Pairwise.nil (fun p hp => absurd hp List.not_mem_nil) hcf.2.2.1 (by omega) hcf.2.2.2.2.2.2.1
    rcases hus with ⟨e, _⟩ | ⟨_, _, hiff⟩
    · cases e
    refine ⟨_, a, l', P', rfl, (hiff _).2 (.inr rfl), rfl, fun w2 hb => (hr w2 hb).mono ?_⟩
    rintro e w3 ⟨rfl, h8, y3, _⟩
    exact ⟨rfl, (h2.below hb).ry y3, h8⟩
theorem TDs.start {P : Nat → List Pg} {l : List Tl} {f : Nat → Nat} (h : TS W w pb tb qm fb ga gb b c xb at_ L 1 l P f 128 (fun _ => 0) (fun _ => 0) (fun _ => 0)) (hR : RP W.heap.size w rp rt fq g r l (SLf P) (ULf P) L 128) :
    TDs W (w.alloc (.cells (row9 rp) 48)) pb tb qm fb ga gb b c xb at_ L rp rt fq g r w.heap.size 1 := by
  have hb : Below w.heap.size w (w.alloc (.cells (row9 rp) 48)) := (Below.refl _ w).alloc (Nat.le_refl _) _
  refine ⟨l, P, f, 128, _, _, _, h.below hb, RT9.made _ _ _ (heap_alloc_new w _), hR.below hb, h.way.size, ?_⟩
  rw [leavesL_nil (fun _ _ => rfl)]
  decide
theorem TDs.way (h : TDs W w pb tb qm fb ga gb b c xb at_ L rp rt fq g r tp n) : Below W.heap.size W w := by
  obtain ⟨l, P, f, C, lf, A, B, h1, _⟩ := h
  exact h1.way
end
/-- an act's own block -/
def AS (w : World) (xa : Nat) (k s X Y : Int) : Prop := w.heap[xa]? = some (.cells #[.int .i64 k, .int .i64 s, .int .u64 X, .int .u64 Y] 50 (0, 0))
section
variable {w w' : World} {xa : Nat} {k s X Y : Int}
theorem AS.new (w : World) (k s X Y : Int) : AS (w.alloc (.cells #[.int .i64 k, .int .i64 s, .int .u64 X, .int .u64 Y] 50)) w.heap.size k s X Y := heap_alloc_new w _
theorem AS.below (h : AS w xa k s X Y) (hb : Below w.heap.size w w') : AS w' xa k s X Y := (hb.block _ (blt h)).trans h
theorem AS.keep (h : AS w xa k s X Y) (hk : KeepA w w') : AS w' xa k s X Y := hk _ _ h
theorem AS.cells (h : AS w xa k s X Y) : w.cell? ⟨xa, 1, none⟩ = some (.int .i64 s) ∧ w.cell? ⟨xa, 2, none⟩ = some (.int .u64 X) ∧ w.cell? ⟨xa, 3, none⟩ = some (.int .u64 Y) :=
  ⟨cell_of_row w xa 1 _ _ _ h, cell_of_row w xa 2 _ _ _ h, cell_of_row w xa 3 _ _ _ h⟩
end
end Go.Proofs.YtflkoabgkgegjaaGreatDoor
/- The walk of TableActs, where the acts are too many or the pool may not be. Condition: the tables hold what their texts say. -/
namespace Go.Proofs.YtflkoabgkgegjaaGreatDoor
open Go.RowKit Go.Maps

set_option maxRecDepth 100000 in
theorem tacts_long (V : Int) (A : Option Addr) (nl cap : Nat) (Aq : Option Addr) (nq capq : Nat) (h : 100 < nl ∨ 100 < nq) (w : World) (hZ : TabZ w) (hC : TabC w) : Calls Tryz.prog 3 #[.int .u16 V, .slice A nl cap, .slice Aq nq capq] w fun e w' => e = .returned (.bool true) ∧ Below w.heap.size w w' := by
  have HZ := Lib.hid hZ
  have HC := Lib.hid hC
  have key : (100 : Int) < (nl : Int) ∨ (¬ (100 : Int) < (nl : Int) ∧ (100 : Int) < (nq : Int)) := by omega
  clear hZ hC h
  rcases key with i1 | ⟨i1, i2⟩
  all_goals
    go_enter Tryz.func3, Tryz.ntmps3
    go_wp2_with fail
    refine (alive_any _ HZ.out HC.out).mono ?_
    rintro e w1 ⟨rfl, hb⟩
    have HB := Lib.hid hb
    clear hb
    go_wp2
    go_ret
    exact ⟨rfl, HB.out⟩
set_option maxRecDepth 100000 in
set_option maxHeartbeats 3200000 in
theorem tacts_no (v : Nat) (hv : 65408 < v ∧ v < 65536) (V : Int) (hV : (v : Int) = V) (A : Option Addr) (nl cap : Nat) (Aq : Option Addr) (nq capq : Nat) (h : nl ≤ 100 ∧ nq ≤ 100) (w : World) (hZ : TabZ w) (hC : TabC w) : Calls Tryz.prog 3 #[.int .u16 V, .slice A nl cap, .slice Aq nq capq] w fun e w' => e = .returned (.bool true) ∧ Below w.heap.size w w' := by
  have i1 : ¬ (100 : Int) < (nl : Int) := by omega
  have i2 : ¬ (100 : Int) < (nq : Int) := by omega
  obtain ⟨LL, hLL⟩ : ∃ LL : Int, ((128 + v : Nat) : Int) = LL := ⟨_, rfl⟩
  obtain ⟨MM, hMM⟩ : ∃ MM : Int, ((128 + (v - 65409) : Nat) : Int) = MM := ⟨_, rfl⟩
  have z0 : IntKind.i64.wrap V = V := by rw [IntKind.wrap_i64]; omega
  have z1 : IntKind.i64.wrap (128 + V) = LL := by rw [IntKind.wrap_i64]; omega
  have z2 : V.tmod 65409 = V - 65409 := by rw [Int.tmod_eq_emod_of_nonneg (by omega)]; omega
  have z3 : IntKind.i64.wrap (V - 65409) = V - 65409 := by rw [IntKind.wrap_i64]; omega
  have z4 : IntKind.i64.wrap (128 + (V - 65409)) = MM := by rw [IntKind.wrap_i64]; omega
  have i3 : decide (65408 < V) = true := decide_eq_true (by omega)
  have HZ := Lib.hid hZ
  have HC := Lib.hid hC
  have HL : Hid (65536 < 128 + v ∧ 128 + v ≤ 1048576) := Lib.hid (by omega)
  have HLL := Lib.hid hLL
  have HMM := Lib.hid hMM
  clear hZ hC h hLL hMM hV hv
  go_enter Tryz.func3, Tryz.ntmps3
  go_wp2_with fail
  refine (alive_any _ HZ.out HC.out).mono ?_
  rintro e w1 ⟨rfl, hb⟩
  have HB := Lib.hid hb
  have HZ1 := Lib.hid (HZ.out.below HZ.out.lt hb)
  have HC1 := Lib.hid (HC.out.below HC.out.lt hb)
  clear hb
  go_wp2_with (first | (go_at_call 5; refine (nget _ _).mono ?_; rintro e w' ⟨rfl, hw⟩; have hw2 := hw.symm; clear hw; subst hw2) | (go_at_call 6; refine (nset _ _ _ _).mono ?_; rintro e w' ⟨rfl, hw⟩; have hw2 := hw.symm; clear hw; subst hw2) | (go_at_call 7; refine (nclear _ _).mono ?_; rintro e w' ⟨rfl, hw⟩; have hw2 := hw.symm; clear hw; subst hw2) | (go_at_call 8; refine (nslots _).mono ?_; rintro e w' ⟨rfl, hw⟩; have hw2 := hw.symm; clear hw; subst hw2) | (go_at_call 9; refine (nleaves _).mono ?_; rintro e w' ⟨rfl, hw⟩; have hw2 := hw.symm; clear hw; subst hw2))
  obtain ⟨w2, hw2⟩ : ∃ w2, w1.alloc (Obj.cells #[Value.int IntKind.i64 0] 3) = w2 := ⟨_, rfl⟩
  rw [hw2]
  have b2 : Below w1.heap.size w1 w2 := by rw [← hw2]; exact (Below.refl _ w1).alloc (Nat.le_refl _) _
  have HB2 := Lib.hid (HB.out.trans (b2.mono HB.out.size))
  have HZ2 := Lib.hid (HZ1.out.below HZ1.out.lt b2)
  clear b2 hw2
  refine (nneed _ _).mono ?_
  rintro e w' ⟨rfl, hw⟩
  have hw2 := hw.symm
  clear hw
  subst hw2
  go_wp2_with fail
  refine (nat_ 64 _).mono ?_
  rintro e w' ⟨rfl, hw⟩
  have hw2 := hw.symm
  clear hw
  subst hw2
  go_wp2_with fail
  refine (pnew_no (128 + v) HL.out LL HLL.out _ HZ2.out).mono ?_
  rintro e w3 ⟨rfl, hb3⟩
  have HB3 := Lib.hid (HB2.out.trans (hb3.mono HB2.out.size))
  clear hb3
  go_wp2_with fail
  refine (rpnew (128 + (v - 65409)) MM HMM.out _ 0 (Nat.zero_le _)).mono ?_
  rintro e w4 ⟨rp, rt, fq, g, r, rfl, _, hb4, _⟩
  have HB4 := Lib.hid (HB3.out.trans (hb4.mono HB3.out.size))
  clear hb4
  go_wp2
  go_ret
  exact ⟨rfl, HB4.out⟩
end Go.Proofs.YtflkoabgkgegjaaGreatDoor
