/- The reference's cache in memory, beside the program's. No condition. -/
import Derived.Test.YtbadoihpbemjjaaDoorY27
import Derived.Test.YtbadoihpbemjjaaDoorY35
import Derived.Test.YtbadoihpbemjjaaDoorY37
/- The reference's cache in memory, beside the program's. No condition. -/
namespace Go.Proofs.YtbadoihpbemjjaaDoor
open Go.RowKit Go.Maps

/-- the types of the blocks that the program's cache and allocator write -/
def OffT (t : TypeId) : Prop := t ≠ 95 ∧ t ≠ 73 ∧ t ≠ 71
/-- every block of another type stands -/
def Keep (w w' : World) : Prop := ∀ (x : Nat) (cs : Array Value) (t : TypeId), w.heap[x]? = some (.cells cs t (0, 0)) → OffT t → w'.heap[x]? = some (.cells cs t (0, 0))
theorem Keep.of_below {w w' : World} (h : Below w.heap.size w w') : Keep w w' := fun x cs t hx _ => (h.block x (blt hx)).trans hx
theorem Keep.trans {a b c : World} (h1 : Keep a b) (h2 : Keep b c) : Keep a c := fun x cs t hx ht => h2 x cs t (h1 x cs t hx ht) ht
section
variable {W w w' : World} {c b size M top n : Nat} {l : List Tl} {P : List Pg}
theorem SGx.holds {gm gw : Nat → Nat} {mu : Nat} {A : Option Addr} {cap : Nat} (h : SGx W [] w c b size M top gm gw mu n l A cap P) : ∀ K : List (Nat × Obj), (∀ x ∈ K, w.heap[x.1]? = some x.2 ∧ ∃ cs t, x.2 = .cells cs t (0, 0) ∧ OffT t) → SGx W K w c b size M top gm gw mu n l A cap P
  | [], _ => h
  | x :: K, hK => by
    have h1 := h.holds K (fun y hy => hK y (List.mem_cons_of_mem _ hy))
    obtain ⟨hx, cs, t, e, ht⟩ := hK x List.mem_cons_self
    obtain ⟨x1, x2⟩ := x
    simp only at hx e
    subst e
    exact h1.hold hx ht.1 ht.2.1 ht.2.2
open Classical in
theorem all_blocks (w : World) : ∃ K : List (Nat × Obj), (∀ x ∈ K, w.heap[x.1]? = some x.2 ∧ ∃ cs t, x.2 = .cells cs t (0, 0) ∧ OffT t) ∧ ∀ (x : Nat) (cs : Array Value) (t : TypeId), w.heap[x]? = some (.cells cs t (0, 0)) → OffT t → (x, .cells cs t (0, 0)) ∈ K := by
  refine ⟨((List.range w.heap.size).filterMap fun i => w.heap[i]?.map fun o => (i, o)).filter fun x => decide (∃ cs t, x.2 = .cells cs t (0, 0) ∧ OffT t), fun x hx => ?_, fun x cs t hx ht => ?_⟩
  · obtain ⟨h1, h2⟩ := List.mem_filter.1 hx
    obtain ⟨i, _, h3⟩ := List.mem_filterMap.1 h1
    cases ho : w.heap[i]? with
    | none => rw [ho] at h3; cases h3
    | some o =>
      rw [ho] at h3
      injection h3 with h3
      subst h3
      exact ⟨ho, of_decide_eq_true h2⟩
  · exact List.mem_filter.2 ⟨List.mem_filterMap.2 ⟨x, List.mem_range.2 (blt hx), by rw [hx]; rfl⟩, decide_eq_true ⟨cs, t, rfl, ht⟩⟩
theorem SG.all (h : SG W [] w c b size M top n l P) : ∃ K, SG W K w c b size M top n l P ∧ ∀ n' l' P' w', SG W K w' c b size M top n' l' P' → SG W [] w' c b size M top n' l' P' ∧ Keep w w' := by
  obtain ⟨gm, gw, mu, A, cap, h⟩ := h
  obtain ⟨K, h1, h2⟩ := all_blocks w
  refine ⟨K, ⟨gm, gw, mu, A, cap, h.holds K h1⟩, fun n' l' P' w' ⟨gm', gw', mu', A', cap', h'⟩ => ⟨⟨gm', gw', mu', A', cap', h'.sub (fun x hx => absurd hx List.not_mem_nil)⟩, fun x cs t hx ht => h'.kept _ (h2 x cs t hx ht)⟩⟩
/-- two blocks of the reference turn -/
inductive RT (base : Nat) : World → World → Prop
  | refl (w : World) : RT base w w
  | step {w w1 w2 : World} {x : Nat} : RT base w w1 → (∃ cs t, w1.heap[x]? = some (.cells cs t (0, 0)) ∧ (t = 54 ∨ t = 43)) → base ≤ x → w1.grownBy w2 (some x) → RT base w w2
theorem RT.trans {base : Nat} {a b c : World} (h1 : RT base a b) (h2 : RT base b c) : RT base a c := by
  induction h2 with
  | refl => exact h1
  | step _ h3 h4 h5 ih => exact .step ih h3 h4 h5
theorem SGx.rt {gm gw : Nat → Nat} {mu : Nat} {A : Option Addr} {cap : Nat} (h : SGx W [] w c b size M top gm gw mu n l A cap P) (hr : RT W.heap.size w w') : SGx W [] w' c b size M top gm gw mu n l A cap P := by
  induction hr with
  | refl => exact h
  | step _ hx hb hg ih =>
    obtain ⟨cs, t, h1, h2⟩ := hx
    rcases h2 with rfl | rfl
    · exact ih.other h1 hb (by decide) (by decide) (by decide) (by decide) (by decide) hg
    · exact ih.other h1 hb (by decide) (by decide) (by decide) (by decide) (by decide) hg
theorem SG.rt (h : SG W [] w c b size M top n l P) (hr : RT W.heap.size w w') : SG W [] w' c b size M top n l P := by
  obtain ⟨gm, gw, mu, A, cap, h⟩ := h
  exact ⟨gm, gw, mu, A, cap, h.rt hr⟩
end
/-- a slice's values in a block of a type -/
def HeldT (t : TypeId) (w : World) (A : Option Addr) (xs : List Value) : Prop := xs ≠ [] → ∃ b off cs, A = some ⟨b, off, none⟩ ∧ w.heap[b]? = some (.cells cs t (0, 0)) ∧ ∀ j u, xs[j]? = some u → cs[off + j]? = some u
section
variable {w w' : World} {A : Option Addr} {xs : List Value} {t : TypeId}
theorem HeldT.sl (h : HeldT t w A xs) : SlR w A xs := fun hne => by
  obtain ⟨b, off, cs, h1, h2, h4⟩ := h hne
  exact ⟨b, off, h1, blt h2, fun j u hu => (cell_of_row _ _ _ _ _ _ h2).trans (h4 j u hu)⟩
theorem HeldT.keep (h : HeldT t w A xs) (hk : Keep w w') (ht : OffT t) : HeldT t w' A xs := fun hne => by
  obtain ⟨b, off, cs, h1, h2, h4⟩ := h hne
  exact ⟨b, off, cs, h1, hk _ _ _ h2 ht, h4⟩
theorem HeldT.below (h : HeldT t w A xs) (hb : Below w.heap.size w w') : HeldT t w' A xs := fun hne => by
  obtain ⟨b, off, cs, h1, h2, h4⟩ := h hne
  exact ⟨b, off, cs, h1, (hb.block _ (blt h2)).trans h2, h4⟩
theorem HeldT.turn {g : Nat} {ds : Array Value} {u : TypeId} (h : HeldT t w A xs) (hg : w.grownBy w' (some g)) (hd : w.heap[g]? = some (.cells ds u (0, 0))) (hu : t ≠ u) : HeldT t w' A xs := fun hne => by
  obtain ⟨b, off, cs, h1, h2, h4⟩ := h hne
  exact ⟨b, off, cs, h1, (hg.block _ (blt h2) (fun e => two_types h2 hd hu (by injection e))).trans h2, h4⟩
theorem HeldT.nil (w : World) (A : Option Addr) : HeldT t w A [] := fun h => absurd rfl h
theorem heldT_own {base size n cap : Nat} (h : w.ownsRow base t size (.slice A n cap) n xs) : HeldT t w A xs := fun hne => by
  rcases h.2 with ⟨hv, h0⟩ | ⟨g, cap', cur, hv, hg, hh, hn, hc, hs, ht⟩
  · exfalso
    apply hne
    have := h.1
    rw [h0, Nat.zero_mul] at this
    exact List.eq_nil_of_length_eq_zero this
  · injection hv with hA
    subst hA
    refine ⟨g, 0, cur, rfl, hh, fun j u hu => ?_⟩
    rw [Nat.zero_add]
    rw [← ht] at hu
    have hlt : j < n * size := by
      rcases Nat.lt_or_ge j (n * size) with h1 | h1
      · exact h1
      · rw [List.getElem?_eq_none (by rw [List.length_take]; omega)] at hu; cases hu
    rw [List.getElem?_take_of_lt hlt] at hu
    simpa using hu
end
theorem HeldS.keep {w w' : World} {s : Option Addr × List Value} (h : HeldS w s) (hk : Keep w w') (ht : OffT (tyOf s.2)) : HeldS w' s := fun hne => by
  obtain ⟨b, off, cs, t, h1, h2, h3, h4⟩ := h hne
  exact ⟨b, off, cs, t, h1, hk _ _ _ h2 (by rw [h3.2]; exact ht), h3, h4⟩
theorem RB.keep {w w' : World} {g top : Nat} {A1 A2 : Option Addr} {c1 c2 : Nat} {LF LU : List (Nat × Nat)} (h : RB w g top A1 c1 LF A2 c2 LU) (hk : Keep w w') : RB w' g top A1 c1 LF A2 c2 LU :=
  ⟨h.row.keep hk (show OffT 54 from ⟨by decide, by decide, by decide⟩), h.f.keep hk (by rw [tyOf_bCells]; exact ⟨by decide, by decide, by decide⟩), h.u.keep hk (by rw [tyOf_bCells]; exact ⟨by decide, by decide, by decide⟩), h.cf, h.cu⟩
theorem HeldS.turn {w w' : World} {s : Option Addr × List Value} {g : Nat} {ds : Array Value} {u : TypeId} (h : HeldS w s) (hg : w.grownBy w' (some g)) (hd : w.heap[g]? = some (.cells ds u (0, 0))) (hu : tyOf s.2 ≠ u) : HeldS w' s := fun hne => by
  obtain ⟨b, off, cs, t, h1, h2, h3, h4⟩ := h hne
  exact ⟨b, off, cs, t, h1, (hg.block _ (blt h2) (fun e => two_types h2 hd (by rw [h3.2]; exact hu) (by injection e))).trans h2, h3, h4⟩
theorem RB.turn {w w' : World} {g top r : Nat} {ds : Array Value} {A1 A2 : Option Addr} {c1 c2 : Nat} {LF LU : List (Nat × Nat)} (h : RB w g top A1 c1 LF A2 c2 LU) (hg : w.grownBy w' (some r)) (hd : w.heap[r]? = some (.cells ds 43 (0, 0))) : RB w' g top A1 c1 LF A2 c2 LU :=
  ⟨h.row.turn hg hd (show 54 ≠ 43 by decide), h.f.turn hg hd (by rw [tyOf_bCells]; decide), h.u.turn hg hd (by rw [tyOf_bCells]; decide), h.cf, h.cu⟩
/-- the reference's row -/
def rRow (g : Nat) (size : Int) (S1 : Option Addr) (n1 d1 : Nat) (S2 : Option Addr) (n2 d2 : Nat) : Array Value := #[.pointer (some ⟨g, 0, none⟩), .int .i64 size, .slice S1 n1 d1, .slice S2 n2 d2]
/-- the reference's cache: its slabs, its used places, its allocator -/
structure RC (w : World) (r g size top : Nat) (A1 : Option Addr) (c1 : Nat) (A2 : Option Addr) (c2 : Nat) (l : List Tl) (S1 : Option Addr) (d1 : Nat) (SL : List Int) (S2 : Option Addr) (d2 : Nat) (UL : List Int) : Prop where
  rb : RB w g top A1 c1 (blks true 0 l) A2 c2 (blks false 0 l)
  row : w.heap[r]? = some (.cells (rRow g (size : Int) S1 SL.length d1 S2 UL.length d2) 43 (0, 0))
  sl : HeldT 3 w S1 (i64s SL)
  ul : HeldT 3 w S2 (i64s UL)
  cs : SL.length ≤ d1
  cu : UL.length ≤ d2
section
variable {w w' : World} {r g size top : Nat} {A1 A2 S1 S2 : Option Addr} {c1 c2 d1 d2 : Nat} {l : List Tl} {SL UL : List Int}
theorem RC.r0 (h : RC w r g size top A1 c1 A2 c2 l S1 d1 SL S2 d2 UL) : w.cell? ⟨r, 0, none⟩ = some (.pointer (some ⟨g, 0, none⟩)) := by rw [cell_of_row _ _ _ _ _ _ h.row]; rfl
theorem RC.r1 (h : RC w r g size top A1 c1 A2 c2 l S1 d1 SL S2 d2 UL) : w.cell? ⟨r, 1, none⟩ = some (.int .i64 (size : Int)) := by rw [cell_of_row _ _ _ _ _ _ h.row]; rfl
theorem RC.r2 (h : RC w r g size top A1 c1 A2 c2 l S1 d1 SL S2 d2 UL) : w.cell? ⟨r, 2, none⟩ = some (.slice S1 SL.length d1) := by rw [cell_of_row _ _ _ _ _ _ h.row]; rfl
theorem RC.r3 (h : RC w r g size top A1 c1 A2 c2 l S1 d1 SL S2 d2 UL) : w.cell? ⟨r, 3, none⟩ = some (.slice S2 UL.length d2) := by rw [cell_of_row _ _ _ _ _ _ h.row]; rfl
theorem RC.froz (h : RC w r g size top A1 c1 A2 c2 l S1 d1 SL S2 d2 UL) (i : Nat) : w.frozen? ⟨r, i, none⟩ = false := frozen_of_row _ _ _ _ _ h.row
theorem RC.lt (h : RC w r g size top A1 c1 A2 c2 l S1 d1 SL S2 d2 UL) : r < w.heap.size := blt h.row
theorem RC.below (h : RC w r g size top A1 c1 A2 c2 l S1 d1 SL S2 d2 UL) (hb : Below w.heap.size w w') : RC w' r g size top A1 c1 A2 c2 l S1 d1 SL S2 d2 UL :=
  ⟨h.rb.below hb, (hb.block _ (blt h.row)).trans h.row, h.sl.below hb, h.ul.below hb, h.cs, h.cu⟩
theorem RC.keep (h : RC w r g size top A1 c1 A2 c2 l S1 d1 SL S2 d2 UL) (hk : Keep w w') : RC w' r g size top A1 c1 A2 c2 l S1 d1 SL S2 d2 UL :=
  ⟨h.rb.keep hk, hk _ _ _ h.row ⟨by decide, by decide, by decide⟩, h.sl.keep hk ⟨by decide, by decide, by decide⟩, h.ul.keep hk ⟨by decide, by decide, by decide⟩, h.cs, h.cu⟩
theorem RC.setS (h : RC w r g size top A1 c1 A2 c2 l S1 d1 SL S2 d2 UL) {A : Option Addr} {m d : Nat} {L : List Int} (hA : HeldT 3 w A (i64s L)) (hm : m = L.length) (hd : m ≤ d) : RC (w.setCell ⟨r, 2, none⟩ (.slice A m d)) r g size top A1 c1 A2 c2 l A d L S2 d2 UL := by
  subst hm
  have hg : w.grownBy (w.setCell ⟨r, 2, none⟩ (.slice A L.length d)) (some r) := gb_set (World.grownBy.refl _ _) _ _
  exact ⟨h.rb.turn hg h.row, heap_setCell_same w r 2 _ _ _ h.row, hA.turn hg h.row (by decide), h.ul.turn hg h.row (by decide), hd, h.cu⟩
theorem RC.setU (h : RC w r g size top A1 c1 A2 c2 l S1 d1 SL S2 d2 UL) {A : Option Addr} {m d : Nat} {L : List Int} (hA : HeldT 3 w A (i64s L)) (hm : m = L.length) (hd : m ≤ d) : RC (w.setCell ⟨r, 3, none⟩ (.slice A m d)) r g size top A1 c1 A2 c2 l S1 d1 SL A d L := by
  subst hm
  have hg : w.grownBy (w.setCell ⟨r, 3, none⟩ (.slice A L.length d)) (some r) := gb_set (World.grownBy.refl _ _) _ _
  exact ⟨h.rb.turn hg h.row, heap_setCell_same w r 3 _ _ _ h.row, h.sl.turn hg h.row (by decide), hA.turn hg h.row (by decide), h.cs, hd⟩
/-- the reference's allocator turns -/
theorem RC.turn {B1 B2 : Option Addr} {e1 e2 : Nat} {l' : List Tl} (h : RC w r g size top A1 c1 A2 c2 l S1 d1 SL S2 d2 UL) (hg : w.grownBy w' (some g)) (hr : RB w' g top B1 e1 (blks true 0 l') B2 e2 (blks false 0 l')) : RC w' r g size top B1 e1 B2 e2 l' S1 d1 SL S2 d2 UL := by
  obtain ⟨cs, hcs, _⟩ := h.rb.obj
  exact ⟨hr, (hg.block _ (blt h.row) (fun e => two_types h.row hcs (by decide) (by injection e))).trans h.row, h.sl.turn hg hcs (by decide), h.ul.turn hg hcs (by decide), h.cs, h.cu⟩
theorem RC.stepR {base : Nat} {w0 : World} (h : RC w r g size top A1 c1 A2 c2 l S1 d1 SL S2 d2 UL) (hrt : RT base w0 w) (hb : base ≤ r) (hg : w.grownBy w' (some r)) : RT base w0 w' := .step hrt ⟨_, _, h.row, .inr rfl⟩ hb hg
theorem RC.stepG {base : Nat} {w0 : World} (h : RC w r g size top A1 c1 A2 c2 l S1 d1 SL S2 d2 UL) (hrt : RT base w0 w) (hb : base ≤ g) (hg : w.grownBy w' (some g)) : RT base w0 w' := by
  obtain ⟨cs, hcs, _⟩ := h.rb.obj
  exact .step hrt ⟨_, _, hcs, .inl rfl⟩ hb hg
theorem RC.stepB {base : Nat} {w0 : World} (h : RC w r g size top A1 c1 A2 c2 l S1 d1 SL S2 d2 UL) (hrt : RT base w0 w) (hb : base ≤ r) (hbl : Below w.heap.size w w') : RT base w0 w' := h.stepR hrt hb (below_grown (World.grownBy.refl _ _) hbl)
end
end Go.Proofs.YtbadoihpbemjjaaDoor
