/- What Set and Clear do to a table that is alone in its pool; At. Condition: the table's state. And what follows from it. -/
import Derived.Test.YtflkoabgkgegjaaGreatDoorY35
import Derived.Test.YtflkoabgkgegjaaGreatDoorY31
/- What Set and Clear do to a table that is alone in its pool; At. Condition: the table's state. -/
namespace Go.Proofs.YtflkoabgkgegjaaGreatDoor
open Go.RowKit Go.Maps
section
variable {W w w' : World} {pb tb qm fb ga gb b : Nat} {c : Nat → Nat} {xb at_ L n : Nat} {l : List Tl} {P : Nat → List Pg} {f : Nat → Nat} {C : Nat} {lf A B : Nat → Nat}
theorem full_set {s a : Nat} (h : ∀ j, j < 16 → lf j ≠ 0 → ∃ i, i < 16 ∧ A (16 * j + i) ≠ 0) (ha : a ≠ 0) (hs : s < 256) {lf' : Nat → Nat} (hl : ∀ j, j < 16 → lf' j ≠ 0 → j = s / 16 ∨ lf j ≠ 0) : ∀ j, j < 16 → lf' j ≠ 0 → ∃ i, i < 16 ∧ updF A s a (16 * j + i) ≠ 0 := fun j hj hn => by
  by_cases e : j = s / 16
  · refine ⟨s % 16, by omega, ?_⟩
    rw [show 16 * j + s % 16 = s by omega, updF_same]
    exact ha
  · rcases hl j hj hn with h1 | h1
    · exact absurd h1 e
    · obtain ⟨i, hi, h2⟩ := h j hj h1
      refine ⟨i, hi, ?_⟩
      rw [updF_other _ _ (by omega)]
      exact h2
theorem Alone.set (al : Alone l P lf A C) (h : TS W w pb tb qm fb ga gb b c xb at_ L n l P f C lf A B) {s a bb : Nat} {er : Int} {l' : List Tl} {P' : List Pg} {C' : Nat} {lf' A' B' : Nat → Nat} (hr : SetR L l (P 7) f C lf A B s a bb er l' P' C' lf' A' B') (ha : a ≠ 0) (hs : s < 256) :
    Alone l' (updF P 7 P') lf' A' C' ∧ ((er = 0 ∧ A' = updF A s a ∧ B' = updF B s bb ∧ ((lf (s / 16) ≠ 0 ∧ lf' = lf) ∨ (lf (s / 16) = 0 ∧ C + 256 ≤ L ∧ ∃ x, x ≠ 0 ∧ lf' = updF lf (s / 16) x))) ∨ (er = 5 ∧ lf (s / 16) = 0 ∧ L < C + 256 ∧ A' = A ∧ B' = B ∧ lf' = lf)) := by
  rcases hr with ⟨h1, rfl, rfl, rfl, rfl, rfl, rfl, rfl⟩ | ⟨h1, x, f1, hg, h2⟩
  · refine ⟨?_, .inl ⟨rfl, rfl, rfl, .inl ⟨h1, rfl⟩⟩⟩
    rw [updF_eta]
    exact ⟨al.up, al.p2, al.pk, al.ex, full_set al.full ha hs (fun j hj hn => .inr hn), al.cost⟩
  · cases hg with
    | quota hq =>
      rcases h2 with ⟨_, rfl, rfl, rfl⟩ | ⟨e, _⟩
      · rw [updF_eta]
        exact ⟨al, .inr ⟨rfl, h1, hq, rfl, rfl, rfl⟩⟩
      · cases e
    | none _ _ ht => exact absurd ht (al.room h.pl.lay (fun k hk => h.pl.rise hk) h.pl.good)
    | yes hq a0 ha0 l' P' ht =>
      rcases h2 with ⟨e, _⟩ | ⟨_, xa, hx, hx0, hiff, rfl, rfl, rfl⟩
      · exact absurd rfl e
      · have e0 : a0 = xa := by omega
        subst e0
        have hj : s / 16 < 16 := by omega
        refine ⟨⟨up_take seven_mem al.up ht, by rw [updF_other _ _ (by decide)]; exact al.p2, fun k hk h2 h7 => by rw [updF_other _ _ h7]; exact al.pk k hk h2 h7, fun y => ?_, full_set al.full ha hs (fun j hj hn => ?_), ?_⟩, .inl ⟨rfl, rfl, rfl, .inr ⟨h1, hq, a0, hx0, rfl⟩⟩⟩
        · rw [updF_same, hiff, al.ex]
          constructor
          · rintro (⟨j, hj2, hn, rfl⟩ | rfl)
            · have e : j ≠ s / 16 := fun e => hn (by rw [e]; exact h1)
              exact ⟨j, hj2, by rw [updF_other _ _ e]; exact hn, by rw [updF_other _ _ e]⟩
            · exact ⟨s / 16, hj, by rw [updF_same]; exact hx0, by rw [updF_same]⟩
          · rintro ⟨j, hj2, hn, rfl⟩
            by_cases e : j = s / 16
            · subst e
              rw [updF_same]
              exact .inr rfl
            · rw [updF_other _ _ e] at hn ⊢
              exact .inl ⟨j, hj2, hn, rfl⟩
        · by_cases e : j = s / 16
          · exact .inl e
          · rw [updF_other _ _ e] at hn
            exact .inr hn
        · rw [leaves_up hj h1 hx0, al.cost]
          show 128 + 256 * (leavesL lf 16).length + 256 = _
          omega
theorem Alone.clear (al : Alone l P lf A C) (h : TS W w pb tb qm fb ga gb b c xb at_ L n l P f C lf A B) {s : Nat} {l' : List Tl} {P' : List Pg} {C' : Nat} {lf' A' B' : Nat → Nat} (hr : ClearR l (P 7) C lf A B s l' P' C' lf' A' B') (ha : A s ≠ 0) (hs : s < 256) :
    Alone l' (updF P 7 P') lf' A' C' ∧ A' = updF A s 0 ∧ B' = updF B s 0 := by
  have hl : lf (s / 16) ≠ 0 := fun e => ha (by
    have := h.rel.no (s / 16) (s % 16) (by omega) (by omega) e
    rw [show 16 * (s / 16) + s % 16 = s by omega] at this
    exact this.1)
  have oth : ∀ j, j ≠ s / 16 → ∀ i, i < 16 → updF A s 0 (16 * j + i) = A (16 * j + i) := fun j e i hi => updF_other _ _ (by omega)
  obtain ⟨rfl, rfl, ⟨hn, rfl, rfl, rfl, rfl⟩ | ⟨hz, hCC, rfl, hiff, hc⟩⟩ := hr
  · refine ⟨?_, rfl, rfl⟩
    rw [updF_eta]
    refine ⟨al.up, al.p2, al.pk, al.ex, fun j hj hnj => ?_, al.cost⟩
    by_cases e : j = s / 16
    · subst e
      refine Decidable.byContradiction fun hc => hn fun i hi => Decidable.byContradiction fun h2 => hc ⟨i, hi, h2⟩
    · obtain ⟨i, hi, h2⟩ := al.full j hj hnj
      exact ⟨i, hi, by rw [oth j e i hi]; exact h2⟩
  · have hj : s / 16 < 16 := by omega
    refine ⟨⟨up_give' seven_mem al.up hc, by rw [updF_other _ _ (by decide)]; exact al.p2, fun k hk h2 h7 => by rw [updF_other _ _ h7]; exact al.pk k hk h2 h7, fun y => ?_, fun j hj2 hnj => ?_, ?_⟩, rfl, rfl⟩
    · rw [updF_same, hiff, al.ex]
      constructor
      · rintro ⟨⟨j, hj2, hn, rfl⟩, hne⟩
        have e : j ≠ s / 16 := fun e => hne (by rw [e])
        exact ⟨j, hj2, by rw [updF_other _ _ e]; exact hn, by rw [updF_other _ _ e]⟩
      · rintro ⟨j, hj2, hn, rfl⟩
        have e : j ≠ s / 16 := fun e => by
          subst e
          rw [updF_same] at hn
          exact hn rfl
        rw [updF_other _ _ e] at hn ⊢
        exact ⟨⟨j, hj2, hn, rfl⟩, fun e2 => h.inj j (s / 16) hj2 hj e hn (by omega)⟩
    · have e : j ≠ s / 16 := fun e => by
        subst e
        rw [updF_same] at hnj
        exact hnj rfl
      rw [updF_other _ _ e] at hnj
      obtain ⟨i, hi, h2⟩ := al.full j hj2 hnj
      exact ⟨i, hi, by rw [oth j e i hi]; exact h2⟩
    · have := leaves_down hj hl
      rw [hCC, al.cost]
      omega
theorem Alone.pay (al : Alone l P lf A C) (h : TS W w pb tb qm fb ga gb b c xb at_ L n l P f C lf A B) {s : Nat} (ha : A s ≠ 0) (hs : s < 256) : 256 ≤ C := by
  have hl : lf (s / 16) ≠ 0 := fun e => ha (by
    have := h.rel.no (s / 16) (s % 16) (by omega) (by omega) e
    rw [show 16 * (s / 16) + s % 16 = s by omega] at this
    exact this.1)
  have := leaves_down (lf := lf) (j := s / 16) (by omega) hl
  rw [al.cost]
  omega
set_option maxRecDepth 100000 in
theorem tat_yes (h : PL W w pb tb qm fb ga gb b c L n l P f C) (hC : TabC W) (X : Int) (hX : X ∈ usedC (mC 2) (szC 2) (P 2)) :
    Calls Tryz.prog 11 #[.pointer (some ⟨pb, 0, none⟩), .int .i64 0, .int .i64 X] w fun e w' => ∃ xb, e = .returned (.pointer (some ⟨xb, 0, none⟩)) ∧ PL W w' pb tb qm fb ga gb b c L n l P f C ∧ Keep w w' ∧ w'.heap[xb]? = some (.cells #[.pointer (some ⟨pb, 0, none⟩), .int .i64 0, .int .i64 X] 73 (0, 0)) := by
  obtain ⟨a, ha, hab, _⟩ := used_place (h.lay.lay 2 two_mem) h.good (cls_facts 2 two_mem).2.2.1 (sz16 two_mem) hX
  have HP := Lib.hid (phas h hC two_mem 2 rfl X (WalkArith.wf_i64 (by omega)) true (by simp [hX]))
  clear h hC hX ha hab
  go_enter Tryz.func11, Tryz.ntmps11
  go_wp2_with fail
  refine HP.out.mono ?_
  rintro e w2 ⟨rfl, h2, k2⟩
  have H2 := Lib.hid h2
  have K2 := Lib.hid k2
  clear h2 k2
  go_wp2
  go_ret
  have hb : Below w2.heap.size w2 (w2.alloc (.cells #[.pointer (some ⟨pb, 0, none⟩), .int .i64 0, .int .i64 X] 73)) := (Below.refl _ w2).alloc (Nat.le_refl _) _
  exact ⟨_, rfl, H2.out.below hb, K2.out.trans (Keep.of_below hb), heap_alloc_new w2 _⟩
set_option maxRecDepth 100000 in
theorem tat_no (h : PL W w pb tb qm fb ga gb b c L n l P f C) (hC : TabC W) (X : Int) (hw : (Lit.int .i64 X).wf = true) (hX : X ∉ usedC (mC 2) (szC 2) (P 2)) :
    Calls Tryz.prog 11 #[.pointer (some ⟨pb, 0, none⟩), .int .i64 0, .int .i64 X] w fun e w' => e = .returned (.pointer none) ∧ PL W w' pb tb qm fb ga gb b c L n l P f C ∧ Keep w w' := by
  have HP := Lib.hid (phas h hC two_mem 2 rfl X hw false (by simp [hX]))
  clear h hC hX hw
  go_enter Tryz.func11, Tryz.ntmps11
  go_wp2_with fail
  refine HP.out.mono ?_
  rintro e w2 ⟨rfl, h2, k2⟩
  have H2 := Lib.hid h2
  have K2 := Lib.hid k2
  clear h2 k2
  go_wp2
  go_ret
  exact ⟨rfl, H2.out, K2.out⟩
/-- the first place of a new pool -/
theorem pget_first (h : PL W w pb tb qm fb ga gb b c L 0 [(6, true)] (fun _ => []) (fun _ => 0) 0) (hZ : TabZ W) (hC : TabC W) (hL : 128 ≤ L) :
    Calls Tryz.prog 14 #[.pointer (some ⟨pb, 0, none⟩), .int .i64 0, .int .i64 2] w fun e w' => ∃ (X : Int) (a : Nat) (l' : List Tl) (P' : List Pg), X = (a : Int) ∧ a ≤ 65536 - 128 ∧ e = .returned (.tuple #[.int .i64 X, .int .i64 0]) ∧ PL W w' pb tb qm fb ga gb b c L 1 l' (updF (fun _ => []) 2 P') (Ar.fillF (fun _ => 0) a 128 0) 128 ∧ KeepP w w' ∧ X ∈ usedC (mC 2) (szC 2) P' ∧ Alone l' (updF (fun _ => []) 2 P') (fun _ => 0) (fun _ => 0) 128 := by
  refine (pget h hZ hC (by omega) two_mem 2 rfl).mono ?_
  rintro e w' ⟨x, er, l', P', f', C', rfl, hg, h2, k2⟩
  cases hg with
  | quota hq => exact absurd hq (by have : szC 2 = 128 := rfl; omega)
  | none _ _ ht => exact absurd (full_none ht (6, true) List.mem_cons_self) (by decide)
  | yes hq a ha l' P' ht =>
    have hcf := cls_facts 2 two_mem
    have hus := ht.used (P := []) (h.lay.lay 2 two_mem) List.Pairwise.nil (fun p hp => absurd hp List.not_mem_nil) hcf.2.2.1 (by omega) hcf.2.2.2.2.2.2.1
    rcases hus with ⟨e, _⟩ | ⟨_, _, hiff⟩
    · cases e
    have ha' : a + 128 ≤ 65536 := ha
    refine ⟨_, a, l', P', rfl, by omega, rfl, h2, k2, (hiff _).2 (.inr rfl), up_take two_mem (P := fun _ => []) (fun x hx => by simp [blks] at hx) ht, ?_, fun k hk h2 h7 => by rw [updF_other _ _ h2], fun y => ?_, fun j hj hn => absurd rfl hn, ?_⟩
    · rw [updF_same]
      generalize hv : ((a : Nat) : Int) = v at ht
      generalize he : (0 : Int) = er at ht
      cases ht with
      | old P1 P2 p i hP => exact absurd hP (by simp)
      | none => exact absurd he (by decide)
      | new hf q kk aa d hld hq hc i hi hpo p hp hw => simp
    · rw [updF_other _ _ (by decide)]
      constructor
      · intro hy
        simp [usedC] at hy
      · rintro ⟨j, _, hn, _⟩
        exact absurd rfl hn
    · decide
theorem zero_rel (a : Nat) : TRel (Ar.fillF (fun _ => 0) a 128 0) a (fun _ => 0) (fun _ => 0) (fun _ => 0) :=
  ⟨fillF_lt (fun i => by decide) a 128, fun j hj => wd_fill_in (by omega) (by omega), fun j i _ _ hn => absurd rfl hn, fun j i _ _ _ => ⟨rfl, rfl⟩⟩
/-- the first table of a new pool -/
theorem tat_first {l' : List Tl} {P' : List Pg} (a : Nat) (X : Int) (hX : X = (a : Int)) (h : PL W w pb tb qm fb ga gb b c L 1 l' (updF (fun _ => []) 2 P') (Ar.fillF (fun _ => 0) a 128 0) 128) (hC : TabC W) (hx : X ∈ usedC (mC 2) (szC 2) P') :
    Calls Tryz.prog 11 #[.pointer (some ⟨pb, 0, none⟩), .int .i64 0, .int .i64 X] w fun e w' => ∃ xb, e = .returned (.pointer (some ⟨xb, 0, none⟩)) ∧ TS W w' pb tb qm fb ga gb b c xb a L 1 l' (updF (fun _ => []) 2 P') (Ar.fillF (fun _ => 0) a 128 0) 128 (fun _ => 0) (fun _ => 0) (fun _ => 0) ∧ Keep w w' := by
  refine (tat_yes h hC X (by rw [updF_same]; exact hx)).mono ?_
  rintro e w' ⟨xb, he, h2, k2, hr⟩
  subst hX
  exact ⟨xb, he, ⟨h2, hr, zero_rel a, by rw [updF_same]; exact hx, fun j hj hn => absurd rfl hn, fun i j _ _ _ hn => absurd rfl hn, fun s _ _ => rfl⟩, k2⟩
end
end Go.Proofs.YtflkoabgkgegjaaGreatDoor
/- The reference's caches of the classes over one allocator. Condition: their rows are read. -/
namespace Go.Proofs.YtflkoabgkgegjaaGreatDoor
open Go.RowKit Go.Maps

/-- the types of blocks that are none of a pool's, nor a table's -/
def FreeT (t : TypeId) : Prop := t ≠ 27 ∧ t ≠ 140 ∧ t ≠ 133 ∧ t ≠ 128 ∧ t ≠ 118 ∧ t ≠ 88 ∧ t ≠ 122 ∧ t ≠ 111 ∧ t ≠ 130 ∧ t ≠ 5 ∧ t ≠ 73
section
variable {W w w' : World} {pb tb qm fb ga gb b : Nat} {c : Nat → Nat} {xb at_ L n : Nat} {l : List Tl} {P : Nat → List Pg} {f : Nat → Nat} {C : Nat} {lf A B : Nat → Nat}
theorem PL.otherT {t : TypeId} (ht : FreeT t) (h : PL W w pb tb qm fb ga gb b c L n l P f C) {x : Nat} {cs : Array Value} (hx : w.heap[x]? = some (.cells cs t (0, 0))) (hw : W.heap.size ≤ x) (hg : w.grownBy w' (some x)) : PL W w' pb tb qm fb ga gb b c L n l P f C := by
  obtain ⟨t1, t2, t3, t4, t5, t6, t7, t8, t9, t10, t11⟩ := ht
  have st : ∀ {y : Nat} {ds : Array Value} {u : TypeId}, w.heap[y]? = some (.cells ds u (0, 0)) → u ≠ t → w'.heap[y]? = some (.cells ds u (0, 0)) := fun hd ht => (hg.block _ (blt hd) (fun e2 => two_types hd hx ht (by injection e2))).trans hd
  obtain ⟨a1, ⟨ds, a2, a3⟩, a4, a5⟩ := h.ar
  have hm : w'.heap[qm]? = some (qObj fb) := (hg.block _ (by
    have := h.qu.map
    rcases Nat.lt_or_ge qm w.heap.size with q | q
    · exact q
    · rw [Array.getElem?_eq_none q] at this; cases this) (fun e => h.nq hx _ (List.mem_singleton.2 rfl) (by injection e))).trans h.qu.map
  refine ⟨h.fam.otherK hx hw (h.nq hx) t1 t2 t3 t4 t5 hg, st h.row t6.symm, ⟨st h.qu.tree t7.symm, hm, st h.qu.fac t8.symm⟩, ⟨st a1 t9.symm, ⟨ds, st a2 t10.symm, a3⟩, fun i hi => ?_, a5⟩, h.lay, h.le, h.new⟩
  have := a4 i hi
  rw [cell_of_row _ _ _ _ _ _ a2] at this
  rw [cell_of_row _ _ _ _ _ _ (st a2 t10.symm), this]
theorem TS.otherT {t : TypeId} (ht : FreeT t) (h : TS W w pb tb qm fb ga gb b c xb at_ L n l P f C lf A B) {x : Nat} {cs : Array Value} (hx : w.heap[x]? = some (.cells cs t (0, 0))) (hw : W.heap.size ≤ x) (hg : w.grownBy w' (some x)) : TS W w' pb tb qm fb ga gb b c xb at_ L n l P f C lf A B :=
  ⟨h.pl.otherT ht hx hw hg, (hg.block _ (blt h.row) (fun e2 => two_types h.row hx ht.2.2.2.2.2.2.2.2.2.2.symm (by injection e2))).trans h.row, h.rel, h.pat, h.plf, h.inj, h.ab⟩
theorem PL.rt {ok : Nat → Prop} (h : PL W w pb tb qm fb ga gb b c L n l P f C) (hr : RT ok w w') (hok : ∀ x, ok x → W.heap.size ≤ x) : PL W w' pb tb qm fb ga gb b c L n l P f C := by
  induction hr with
  | refl => exact h
  | step _ hx hb hg ih =>
    obtain ⟨cs, t, h1, h2⟩ := hx
    rcases h2 with rfl | rfl
    · exact ih.otherT (by unfold FreeT; decide) h1 (hok _ hb) hg
    · exact ih.otherT (by unfold FreeT; decide) h1 (hok _ hb) hg
theorem TS.rt {ok : Nat → Prop} (h : TS W w pb tb qm fb ga gb b c xb at_ L n l P f C lf A B) (hr : RT ok w w') (hok : ∀ x, ok x → W.heap.size ≤ x) : TS W w' pb tb qm fb ga gb b c xb at_ L n l P f C lf A B := by
  induction hr with
  | refl => exact h
  | step _ hx hb hg ih =>
    obtain ⟨cs, t, h1, h2⟩ := hx
    rcases h2 with rfl | rfl
    · exact ih.otherT (by unfold FreeT; decide) h1 (hok _ hb) hg
    · exact ih.otherT (by unfold FreeT; decide) h1 (hok _ hb) hg
end
/-- blocks of other types stand -/
theorem RT.keep {ok : Nat → Prop} {w w' : World} (hr : RT ok w w') : ∀ (y : Nat) (cs : Array Value) (t : TypeId), w.heap[y]? = some (.cells cs t (0, 0)) → t ≠ 138 → t ≠ 94 → w'.heap[y]? = some (.cells cs t (0, 0)) := by
  induction hr with
  | refl => exact fun y cs t h _ _ => h
  | step h2 hx hb hg ih =>
    intro y cs t h h3 h4
    have hy := ih y cs t h h3 h4
    obtain ⟨ds, u, h5, h6⟩ := hx
    refine (hg.block y (blt hy) (fun e => two_types hy h5 ?_ (by injection e))).trans hy
    rcases h6 with rfl | rfl
    · exact h3
    · exact h4
theorem HeldT.rt {ok : Nat → Prop} {w w' : World} {A : Option Addr} {xs : List Value} (h : HeldT 3 w A xs) (hr : RT ok w w') : HeldT 3 w' A xs := fun hne => by
  obtain ⟨b, off, cs, h1, h2, h4⟩ := h hne
  exact ⟨b, off, cs, h1, hr.keep _ _ _ h2 (by decide) (by decide), h4⟩
/-- the reference's caches -/
def RCF (w : World) (r : Nat → Nat) (g : Nat) (lr : List Tl) (SL UL : Nat → List Int) : Prop := ∃ A1 c1 A2 c2, (∀ k ∈ cls, ∃ S1 d1 S2 d2, RC w (r k) g (szC k) 6 A1 c1 A2 c2 lr S1 d1 (SL k) S2 d2 (UL k)) ∧ ∀ j ∈ cls, ∀ k ∈ cls, j ≠ k → r j ≠ r k
section
variable {w w' : World} {r : Nat → Nat} {g : Nat} {lr : List Tl} {SL UL : Nat → List Int}
theorem RCF.below (h : RCF w r g lr SL UL) (hb : Below w.heap.size w w') : RCF w' r g lr SL UL := by
  obtain ⟨A1, c1, A2, c2, h1, h2⟩ := h
  refine ⟨A1, c1, A2, c2, fun k hk => ?_, h2⟩
  obtain ⟨S1, d1, S2, d2, h3⟩ := h1 k hk
  exact ⟨S1, d1, S2, d2, h3.below hb⟩
theorem RCF.keep (h : RCF w r g lr SL UL) (hk : KeepP w w') : RCF w' r g lr SL UL := by
  obtain ⟨A1, c1, A2, c2, h1, h2⟩ := h
  refine ⟨A1, c1, A2, c2, fun k hk2 => ?_, h2⟩
  obtain ⟨S1, d1, S2, d2, h3⟩ := h1 k hk2
  exact ⟨S1, d1, S2, d2, h3.keep hk⟩
theorem RCF.congr {SL' UL' : Nat → List Int} (h : RCF w r g lr SL UL) (h1 : ∀ k ∈ cls, SL' k = SL k) (h2 : ∀ k ∈ cls, UL' k = UL k) : RCF w r g lr SL' UL' := by
  obtain ⟨A1, c1, A2, c2, h3, h4⟩ := h
  exact ⟨A1, c1, A2, c2, fun k hk => by rw [h1 k hk, h2 k hk]; exact h3 k hk, h4⟩
/-- one of them is used -/
theorem RCF.one {k : Nat} (hk : k ∈ cls) (h : RCF w r g lr SL UL) {l' : List Tl} {SL' UL' : List Int} (hr : RT (fun x => x = r k ∨ x = g) w w') (hn : ∃ B1 e1 B2 e2 T1 f1 T2 f2, RC w' (r k) g (szC k) 6 B1 e1 B2 e2 l' T1 f1 SL' T2 f2 UL') : RCF w' r g l' (updF SL k SL') (updF UL k UL') := by
  obtain ⟨A1, c1, A2, c2, h1, h2⟩ := h
  obtain ⟨B1, e1, B2, e2, T1, f1, T2, f2, hc⟩ := hn
  refine ⟨B1, e1, B2, e2, fun j hj => ?_, h2⟩
  by_cases e : j = k
  · subst e
    rw [updF_same, updF_same]
    exact ⟨T1, f1, T2, f2, hc⟩
  · rw [updF_other _ _ e, updF_other _ _ e]
    obtain ⟨S1, d1, S2, d2, h3⟩ := h1 j hj
    obtain ⟨cs, hcs, _⟩ := h3.rb.obj
    refine ⟨S1, d1, S2, d2, hc.rb, (hr.block _ (blt h3.row) (fun hx => ?_)).trans h3.row, h3.sl.rt hr, h3.ul.rt hr, h3.cs, h3.cu⟩
    rcases hx with hx | hx
    · exact h2 j hj k hk e hx
    · exact two_types h3.row hcs (by decide) hx
theorem rcf_take (h : RCF w r g lr SL UL) {k : Nat} (hk : k ∈ cls) (hg : Good 6 lr) (hb : ∀ x ∈ SL k, 0 ≤ x ∧ x ≤ 1099511627776) (hl1 : (SL k).length ≤ 62914559) (hl2 : (UL k).length ≤ 62914559) :
    Calls Tryz.prog 53 #[.pointer (some ⟨r k, 0, none⟩)] w fun e w' => ∃ at_ er l' SL' UL', e = .returned (.tuple #[.int .i64 at_, .int .i64 er]) ∧ RTk 6 (mC k) (szC k) lr (SL k) (UL k) at_ er l' SL' UL' ∧ RCF w' r g l' (updF SL k SL') (updF UL k UL') ∧ RT (fun x => x = r k ∨ x = g) w w' := by
  obtain ⟨A1, c1, A2, c2, h1, h2⟩ := h
  obtain ⟨S1, d1, S2, d2, h3⟩ := h1 k hk
  have hcf := cls_facts k hk
  refine (rctake h3 hg (by omega) hcf.1 hcf.2.1 hcf.2.2.1 hb hl1 hl2 (fun x => x = r k ∨ x = g) (.inl rfl) (.inr rfl)).mono ?_
  rintro e w' ⟨at_, er, l', SL', UL', rfl, hR, hn, hrt⟩
  exact ⟨at_, er, l', SL', UL', rfl, hR, RCF.one hk ⟨A1, c1, A2, c2, h1, h2⟩ hrt hn, hrt⟩
theorem rcf_give (h : RCF w r g lr SL UL) {k : Nat} (hk : k ∈ cls) (hg : Good 6 lr) (x : Int) (hb : x ∈ UL k → 0 ≤ x ∧ x ≤ 1099511627776) (hl1 : (SL k).length ≤ 62914559) (hl2 : (UL k).length ≤ 62914560) :
    Calls Tryz.prog 82 #[.pointer (some ⟨r k, 0, none⟩), .int .i64 x] w fun e w' => ∃ er l' SL' UL', e = .returned (.int .i64 er) ∧ RGv 6 (mC k) (szC k) lr (SL k) (UL k) x er l' SL' UL' ∧ RCF w' r g l' (updF SL k SL') (updF UL k UL') ∧ RT (fun x => x = r k ∨ x = g) w w' := by
  obtain ⟨A1, c1, A2, c2, h1, h2⟩ := h
  obtain ⟨S1, d1, S2, d2, h3⟩ := h1 k hk
  have hcf := cls_facts k hk
  refine (rcgive h3 hg (by omega) hcf.1 hcf.2.1 hcf.2.2.1 x hb hl1 hl2 (fun x => x = r k ∨ x = g) (.inl rfl) (.inr rfl)).mono ?_
  rintro e w' ⟨er, l', SL', UL', rfl, hR, hn, hrt⟩
  exact ⟨er, l', SL', UL', rfl, hR, RCF.one hk ⟨A1, c1, A2, c2, h1, h2⟩ hrt hn, hrt⟩
theorem rcf_has (h : RCF w r g lr SL UL) {k : Nat} (hk : k ∈ cls) (hl : (UL k).length ≤ 62914560) (x : Int) (b : Bool) (hb : b = true ↔ x ∈ UL k) : Calls Tryz.prog 81 #[.pointer (some ⟨r k, 0, none⟩), .int .i64 x] w fun e w' => e = .returned (.bool b) ∧ w' = w := by
  obtain ⟨A1, c1, A2, c2, h1, h2⟩ := h
  obtain ⟨S1, d1, S2, d2, h3⟩ := h1 k hk
  exact rhas_any h3 hl x b hb
end
end Go.Proofs.YtflkoabgkgegjaaGreatDoor
