/- The walk of alive. Condition: the tables hold what their texts say. And what follows from it. -/
import Derived.Test.YtflkoabgkgegjaaDoorY38
/- The walk of alive. Condition: the tables hold what their texts say. -/
namespace Go.Proofs.YtflkoabgkgegjaaDoor
open Go.RowKit Go.Maps

theorem slotsL_nil {A : Nat → Nat} (h : ∀ i, i < 256 → A i = 0) : slotsL A 256 = [] := by
  unfold slotsL
  rw [List.map_eq_nil_iff, List.filter_eq_nil_iff]
  intro i hi
  simp [h i (List.mem_range.1 hi)]
theorem leavesL_nil {lf : Nat → Nat} (h : ∀ j, j < 16 → lf j = 0) : leavesL lf 16 = [] := by
  unfold leavesL
  rw [List.map_eq_nil_iff, List.filter_eq_nil_iff]
  intro i hi
  simp [h i (List.mem_range.1 hi)]
theorem need4 : needN (fun _ => 0) [17, 18, 40, 300] = 2 := by decide
set_option maxRecDepth 100000 in
set_option maxHeartbeats 12800000 in
theorem alive_any (W : World) (hZ : TabZ W) (hC : TabC W) : Calls Tryd.prog 6 #[] W fun e w' => e = .returned (.bool true) ∧ Below W.heap.size W w' := by
  have HZ := Lib.hid hZ
  have HC := Lib.hid hC
  clear hZ hC
  go_enter Tryd.func6, Tryd.ntmps6
  go_wp2_with fail
  refine (pnew 1000 (by omega) 1000 rfl _ HZ.out HC.out).mono ?_
  rintro e w1 ⟨pb, tb, qm, fb, ga, gb, b, c, rfl, h1⟩
  have H1 := Lib.hid h1
  clear h1
  go_wp2_with fail
  refine (pget_first H1.out HZ.out HC.out (by decide)).mono ?_
  rintro e w2 ⟨X, a, l2, P2, hX, ha, rfl, h2, k2, hx2, al2⟩
  have H2 := Lib.hid h2
  have AL2 := Lib.hid al2
  have HXA : Hid (X = (a : Int) ∧ a ≤ 65536 - 128) := Lib.hid ⟨hX, ha⟩
  have HX2 := Lib.hid hx2
  clear h2 k2 al2 hX ha hx2
  go_wp2_with fail
  refine (tat_first a X HXA.out.1 H2.out HC.out HX2.out).mono ?_
  rintro e w3 ⟨xb, rfl, h3, k3⟩
  have H3 := Lib.hid h3
  clear h3 k3
  go_wp2_with fail
  have hb4 : Below w3.heap.size w3 (w3.alloc (.cells #[.int .i64 17, .int .i64 18, .int .i64 40, .int .i64 300] 3)) := (Below.refl _ w3).alloc (Nat.le_refl _) _
  have H4 := Lib.hid (H3.out.below hb4)
  refine (tneed H4.out [17, 18, 40, 300] 4 rfl (by decide) _ 4 (SlR_new w3 #[.int .i64 17, .int .i64 18, .int .i64 40, .int .i64 300] 3) 2 (by rw [need4]; rfl)).mono ?_
  rintro e w5 ⟨rfl, hb5⟩
  have H5 := Lib.hid (H4.out.below hb5)
  clear hb4 hb5
  go_wp2_with fail
  refine (tset H5.out HZ.out HC.out (by decide) 17 5 6 (by decide) (by decide) (by decide) (by decide) 17 5 6 rfl rfl rfl).mono ?_
  rintro e w6 ⟨er, l6, P6, f6, C6, lf6, A6, B6, rfl, hr6, h6, k6⟩
  obtain ⟨al6, hcase⟩ := AL2.out.set H5.out hr6 (by decide) (by decide)
  rcases hcase with ⟨rfl, rfl, rfl, hlf⟩ | ⟨_, _, hbad, _⟩
  rotate_left
  · exact absurd hbad (by decide)
  rcases hlf with ⟨hbad, _⟩ | ⟨_, _, x6, hx6, rfl⟩
  · exact absurd rfl hbad
  have H6 := Lib.hid h6
  have AL6 := Lib.hid al6
  have HX6 := Lib.hid hx6
  clear hr6 h6 k6 al6 hx6
  go_wp2_with fail
  refine (tget_in H6.out 17 (by decide) 17 5 6 rfl rfl rfl).mono ?_
  rintro e w' ⟨rfl, hw⟩
  have hw2 := hw.symm
  clear hw
  subst hw2
  go_wp2_with fail
  refine (parena H6.out.pl).mono ?_
  rintro e w' ⟨rfl, hw⟩
  have hw2 := hw.symm
  clear hw
  subst hw2
  obtain ⟨V, hV⟩ : ∃ V : Int, ((updF (fun _ => 0) (17 / 16) x6 1 : Nat) : Int) = V := ⟨_, rfl⟩
  have hdj := H6.out.dj.root
  have zX : IntKind.i64.wrap (X + 8) = X + 8 := by rw [IntKind.wrap_i64]; have := HXA.out; omega
  have HLD := Lib.hid (load_int w6 ga gb 65536 f6 (a + 8 * 1) (X + 8) V (by have := HXA.out; omega) (by rw [H6.out.rel.root 1 (by decide)]; exact hV) (by omega) (by omega) H6.out.pl.ar)
  have nV : (V != 0) = true := by
    have : V ≠ 0 := fun e => by
      rw [← hV] at e
      have e2 : updF (fun _ => 0) (17 / 16) x6 1 = x6 := updF_same _ _ _
      rw [e2] at e
      exact HX6.out (by omega)
    simp [this]
  clear hV hdj
  go_wp2_with fail
  refine HLD.out.mono ?_
  rintro e w' ⟨rfl, hw⟩
  have hw2 := hw.symm
  clear hw
  subst hw2
  go_wp2_with fail
  refine (tclear_yes H6.out HC.out 17 (by decide) (by decide) (AL6.out.pay H6.out (s := 17) (by decide) (by decide)) 17 rfl).mono ?_
  rintro e w7 ⟨rfl, l7, P7, f7, C7, lf7, A7, B7, hr7, h7, k7⟩
  obtain ⟨al7, e1, e2⟩ := AL6.out.clear H6.out hr7 (by decide) (by decide)
  have hAz : ∀ i, updF (updF (fun _ => 0) 17 5) 17 0 i = 0 := fun i => by
    by_cases e : i = 17
    · rw [e, updF_same]
    · rw [updF_other _ _ e, updF_other _ _ e]
  have hlz : ∀ j, j < 16 → lf7 j = 0 := by
    obtain ⟨_, _, ⟨hn, _⟩ | ⟨_, _, hl7, _⟩⟩ := hr7
    · exact absurd (fun i _ => hAz _) hn
    · intro j hj
      rw [hl7]
      by_cases e : j = 17 / 16
      · rw [e, updF_same]
      · rw [updF_other _ _ e, updF_other _ _ e]
  have hC7 : C7 = 128 := by
    have := al7.cost
    rw [leavesL_nil hlz] at this
    exact this
  subst e1 e2 hC7
  have H7 := Lib.hid h7
  have HAZ := Lib.hid hAz
  have HLZ := Lib.hid hlz
  clear hr7 h7 k7 al7 hAz hlz
  go_wp2_with fail
  refine (tclear_none H7.out 17 (by decide) (HAZ.out 17) 17 rfl).mono ?_
  rintro e w' ⟨rfl, hw⟩
  have hw2 := hw.symm
  clear hw
  subst hw2
  go_wp2_with fail
  refine (tleaves H7.out 0 (by rw [leavesL_nil HLZ.out]; rfl)).mono ?_
  rintro e w8 ⟨A8, k8, rfl, _, hb8⟩
  have H8 := Lib.hid (H7.out.below hb8)
  clear hb8
  go_wp2_with fail
  refine (tslots H8.out 0 (by rw [slotsL_nil (fun i _ => HAZ.out i)]; rfl)).mono ?_
  rintro e w9 ⟨A9, k9, rfl, _, hb9⟩
  have H9 := Lib.hid (H8.out.below hb9)
  clear hb9
  go_wp2_with fail
  refine (pquota H9.out.pl).mono ?_
  rintro e w' ⟨rfl, hw⟩
  have hw2 := hw.symm
  clear hw
  subst hw2
  go_wp2_with fail
  refine (quse_any H9.out.pl.qu (by decide) 128 rfl).mono ?_
  rintro e w10 ⟨rfl, hb10⟩
  have H10 := Lib.hid (H9.out.below hb10)
  clear hb10
  go_wp2_with fail
  refine (tset_range (xb := xb) 256 (.inr (by decide)) 1 1 _).mono ?_
  rintro e w' ⟨rfl, hw⟩
  have hw2 := hw.symm
  clear hw
  subst hw2
  go_wp2_with fail
  refine (tset_zero (xb := xb) 0 (by decide) 1 _).mono ?_
  rintro e w' ⟨rfl, hw⟩
  have hw2 := hw.symm
  clear hw
  subst hw2
  go_wp2_with fail
  refine (tat_no H10.out.pl HC.out 65 (by decide) (fun hc => by
    obtain ⟨y, e1, _, e3, _⟩ := used_place (H10.out.pl.lay.lay 2 two_mem) H10.out.pl.good (cls_facts 2 two_mem).2.2.1 (sz16 two_mem) hc
    omega)).mono ?_
  rintro e w11 ⟨rfl, h11, k11⟩
  have HW := Lib.hid h11.way
  clear h11 k11
  go_wp2
  go_ret
  exact ⟨rfl, HW.out⟩
end Go.Proofs.YtflkoabgkgegjaaDoor
/- Arrays of words beside a table; what the laws' acts are in memory. Condition: the table's state. -/
namespace Go.Proofs.YtflkoabgkgegjaaDoor
open Go.RowKit Go.Maps

/-- an array of 256 words -/
def AR (w : World) (ab : Nat) (A : Nat → Nat) : Prop := ∃ cs : Array Value, w.heap[ab]? = some (.cells cs 32 (0, 0)) ∧ cs.size = 256 ∧ ∀ i, i < 256 → cs[i]? = some (.int .u64 ((A i : Nat) : Int))
section
variable {w w' : World} {ab : Nat} {A : Nat → Nat}
theorem arr_off : OffP 32 := ⟨⟨by decide, by decide, by decide⟩, by decide, by decide⟩
theorem AR.keep (h : AR w ab A) (hk : KeepP w w') : AR w' ab A := by
  obtain ⟨cs, h1, h2, h3⟩ := h
  exact ⟨cs, hk _ _ _ h1 arr_off, h2, h3⟩
theorem AR.cell (h : AR w ab A) {i : Nat} (hi : i < 256) : w.cell? ⟨ab, i, none⟩ = some (.int .u64 ((A i : Nat) : Int)) := by
  obtain ⟨cs, h1, h2, h3⟩ := h
  rw [cell_of_row _ _ _ _ _ _ h1, h3 i hi]
theorem AR.froz (h : AR w ab A) (i : Nat) : w.frozen? ⟨ab, i, none⟩ = false := by
  obtain ⟨cs, h1, h2, h3⟩ := h
  exact frozen_of_row _ _ _ _ _ h1
theorem AR.set (h : AR w ab A) {i : Nat} (hi : i < 256) (x : Nat) (X : Int) (hX : (x : Int) = X) : AR (w.setCell ⟨ab, i, none⟩ (.int .u64 X)) ab (updF A i x) := by
  subst hX
  obtain ⟨cs, h1, h2, h3⟩ := h
  refine ⟨cs.setIfInBounds i (.int .u64 (x : Int)), heap_setCell_same w ab i _ _ _ h1, by simp [h2], fun j hj => ?_⟩
  by_cases e : j = i
  · subst e
    rw [updF_same]
    simp [h2, hj]
  · rw [updF_other _ _ e, Array.getElem?_setIfInBounds_ne (Ne.symm e)]
    exact h3 j hj
theorem AR.other (h : AR w ab A) {x : Nat} (hne : ab ≠ x) (hg : w.grownBy w' (some x)) : AR w' ab A := by
  obtain ⟨cs, h1, h2, h3⟩ := h
  exact ⟨cs, (hg.block _ (blt h1) (fun e => hne (by injection e))).trans h1, h2, h3⟩
end
section
variable {W w w' : World} {pb tb qm fb ga gb b : Nat} {c : Nat → Nat} {xb at_ L n : Nat} {l : List Tl} {P : Nat → List Pg} {f : Nat → Nat} {C : Nat} {lf A B : Nat → Nat}
/-- a block that is none of the pool's turns -/
theorem PL.other (h : PL W w pb tb qm fb ga gb b c L n l P f C) {x : Nat} {cs : Array Value} (hx : w.heap[x]? = some (.cells cs 32 (0, 0))) (hw : W.heap.size ≤ x) (hg : w.grownBy w' (some x)) : PL W w' pb tb qm fb ga gb b c L n l P f C := by
  have st : ∀ {y : Nat} {ds : Array Value} {u : TypeId}, w.heap[y]? = some (.cells ds u (0, 0)) → u ≠ 32 → w'.heap[y]? = some (.cells ds u (0, 0)) := fun hd ht => (hg.block _ (blt hd) (fun e2 => two_types hd hx ht (by injection e2))).trans hd
  obtain ⟨a1, ⟨ds, a2, a3⟩, a4, a5⟩ := h.ar
  have hm : w'.heap[qm]? = some (qObj fb) := (hg.block _ (by
    have := h.qu.map
    rcases Nat.lt_or_ge qm w.heap.size with q | q
    · exact q
    · rw [Array.getElem?_eq_none q] at this; cases this) (fun e => h.nq hx _ (List.mem_singleton.2 rfl) (by injection e))).trans h.qu.map
  refine ⟨h.fam.otherK hx hw (h.nq hx) (by decide) (by decide) (by decide) (by decide) (by decide) hg, st h.row (by decide), ⟨st h.qu.tree (by decide), hm, st h.qu.fac (by decide)⟩, ⟨st a1 (by decide), ⟨ds, st a2 (by decide), a3⟩, fun i hi => ?_, a5⟩, h.lay, h.le, h.new⟩
  have := a4 i hi
  rw [cell_of_row _ _ _ _ _ _ a2] at this
  rw [cell_of_row _ _ _ _ _ _ (st a2 (by decide)), this]
theorem TS.other (h : TS W w pb tb qm fb ga gb b c xb at_ L n l P f C lf A B) {x : Nat} {cs : Array Value} (hx : w.heap[x]? = some (.cells cs 32 (0, 0))) (hw : W.heap.size ≤ x) (hg : w.grownBy w' (some x)) : TS W w' pb tb qm fb ga gb b c xb at_ L n l P f C lf A B :=
  ⟨h.pl.other hx hw hg, (hg.block _ (blt h.row) (fun e2 => two_types h.row hx (by decide) (by injection e2))).trans h.row, h.rel, h.pat, h.plf, h.inj, h.ab⟩
theorem Alone.most (al : Alone l P lf A C) : C ≤ 4224 := by
  have := leavesL_length lf 16
  rw [al.cost]
  omega
/-- Set, where the limit is no bar -/
theorem tset_ok (h : TS W w pb tb qm fb ga gb b c xb at_ L n l P f C lf A B) (al : Alone l P lf A C) (hL : 4480 ≤ L) (hZ : TabZ W) (hC : TabC W) (hn : n < 1000) (s x y : Nat) (hs : s < 256) (hx : x < 18446744073709551616) (hy : y < 18446744073709551616) (hx0 : x ≠ 0) (S X Y : Int) (hS : (s : Int) = S) (hX : (x : Int) = X) (hY : (y : Int) = Y) :
    Calls Tryd.prog 10 #[.pointer (some ⟨xb, 0, none⟩), .int .i64 S, .int .u64 X, .int .u64 Y] w fun e w' => e = .returned (.int .i64 0) ∧ ∃ l' P' f' C' lf', TS W w' pb tb qm fb ga gb b c xb at_ L (n + 1) l' P' f' C' lf' (updF A s x) (updF B s y) ∧ Alone l' P' lf' (updF A s x) C' ∧ KeepP w w' := by
  refine (tset h hZ hC hn s x y hs hx hy hx0 S X Y hS hX hY).mono ?_
  rintro e w' ⟨er, l', P', f', C', lf', A', B', rfl, hr, h2, k2⟩
  obtain ⟨al2, hcase⟩ := al.set h hr hx0 hs
  rcases hcase with ⟨rfl, rfl, rfl, _⟩ | ⟨_, _, hbad, _⟩
  · exact ⟨rfl, l', _, f', C', lf', h2, al2, k2⟩
  · exact absurd hbad (by have := al.most; omega)
theorem tclear_ok (h : TS W w pb tb qm fb ga gb b c xb at_ L n l P f C lf A B) (al : Alone l P lf A C) (hC : TabC W) (s : Nat) (hs : s < 256) (E S : Int) (hE : E = if A s = 0 then 6 else 0) (hS : (s : Int) = S) :
    Calls Tryd.prog 15 #[.pointer (some ⟨xb, 0, none⟩), .int .i64 S] w fun e w' => e = .returned (.int .i64 E) ∧ ∃ l' P' f' C' lf' B', TS W w' pb tb qm fb ga gb b c xb at_ L n l' P' f' C' lf' (updF A s 0) B' ∧ Alone l' P' lf' (updF A s 0) C' ∧ KeepP w w' := by
  by_cases q : A s = 0
  · rw [if_pos q] at hE
    subst hE
    refine (tclear_none h s hs q S hS).mono ?_
    rintro e w' ⟨rfl, rfl⟩
    have e : updF A s 0 = A := by rw [← q]; exact updF_eta A s
    rw [e]
    exact ⟨rfl, l, P, f, C, lf, B, h, al, fun x cs t hx _ => hx⟩
  · rw [if_neg q] at hE
    subst hE
    refine (tclear_yes h hC s hs q (al.pay h q hs) S hS).mono ?_
    rintro e w' ⟨rfl, l', P', f', C', lf', A', B', hr, h2, k2⟩
    obtain ⟨al2, rfl, rfl⟩ := al.clear h hr q hs
    exact ⟨rfl, l', _, f', C', lf', _, h2, al2, k2⟩
end
/-- the laws' acts in memory -/
structure Ac where
  kind : Int
  slot : Int
  a : Nat
  b : Nat
def acCells (l : List Ac) : List Value := l.flatMap fun x => [.int .i64 x.kind, .int .i64 x.slot, .int .u64 (x.a : Int), .int .u64 (x.b : Int)]
theorem acCells_length : ∀ l : List Ac, (acCells l).length = l.length * 4
  | [] => rfl
  | x :: l => by
    have := acCells_length l
    simp only [acCells, List.flatMap_cons, List.length_append, List.length_cons, List.length_nil] at this ⊢
    omega
theorem acCells_at : ∀ (l : List Ac) (k : Nat) (x : Ac), l[k]? = some x → (acCells l)[k * 4]? = some (.int .i64 x.kind) ∧ (acCells l)[k * 4 + 1]? = some (.int .i64 x.slot) ∧ (acCells l)[k * 4 + 2]? = some (.int .u64 (x.a : Int)) ∧ (acCells l)[k * 4 + 3]? = some (.int .u64 (x.b : Int))
  | [], k, x, h => by simp at h
  | y :: l, 0, x, h => by
    simp only [List.getElem?_cons_zero, Option.some.injEq] at h
    subst h
    exact ⟨rfl, rfl, rfl, rfl⟩
  | y :: l, k + 1, x, h => by
    have := acCells_at l k x (by simpa using h)
    simp only [acCells, List.flatMap_cons] at this ⊢
    rw [show (k + 1) * 4 = k * 4 + 4 by omega, show k * 4 + 4 + 1 = k * 4 + 1 + 4 by omega, show k * 4 + 4 + 2 = k * 4 + 2 + 4 by omega, show k * 4 + 4 + 3 = k * 4 + 3 + 4 by omega]
    exact this
theorem SlR.ac {w : World} {A : Option Addr} {l : List Ac} (h : SlR w A (acCells l)) {k : Nat} (hk : k < l.length) : ∃ b off, A = some ⟨b, off, none⟩ ∧ b < w.heap.size ∧ w.cell? ⟨b, off + k * 4, none⟩ = some (.int .i64 l[k].kind) ∧ w.cell? ⟨b, off + k * 4 + 1, none⟩ = some (.int .i64 l[k].slot) ∧ w.cell? ⟨b, off + k * 4 + 2, none⟩ = some (.int .u64 (l[k].a : Int)) ∧ w.cell? ⟨b, off + k * 4 + 3, none⟩ = some (.int .u64 (l[k].b : Int)) := by
  obtain ⟨b, off, e, hlt, hc⟩ := h (fun e => by have := acCells_length l; rw [e] at this; simp at this; omega)
  have h2 := acCells_at l k l[k] (List.getElem?_eq_getElem hk)
  exact ⟨b, off, e, hlt, hc _ _ h2.1, by rw [Nat.add_assoc]; exact hc _ _ h2.2.1, by rw [Nat.add_assoc]; exact hc _ _ h2.2.2.1, by rw [Nat.add_assoc]; exact hc _ _ h2.2.2.2⟩
end Go.Proofs.YtflkoabgkgegjaaDoor
