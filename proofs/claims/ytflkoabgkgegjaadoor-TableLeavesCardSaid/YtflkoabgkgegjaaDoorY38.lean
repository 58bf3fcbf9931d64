/- The plain law of a table that is alone in its pool. No condition. And what follows from it. -/
import Derived.Test.YtflkoabgkgegjaaDoorY37
/- The plain law of a table that is alone in its pool. No condition. -/
namespace Go.Proofs.YtflkoabgkgegjaaDoor

theorem full_none {top : Nat} {l : List Tl} (h : takeC top l 0 = (0, 4, l)) : ∀ t ∈ l, t.2 = false := fun t ht => by
  cases hf : t.2 with
  | false => rfl
  | true =>
    unfold takeC at h
    rw [if_neg (by omega)] at h
    cases hb : best (0 : Int).toNat l with
    | none =>
      have := best_none hb t ht hf
      simp at this
    | some k =>
      rw [hb] at h
      injection h with _ h
      injection h with h _
      cases h
theorem span_used : ∀ (p : Nat) (l : List Tl), (∀ t ∈ l, t.2 = false) → (∀ x ∈ blks false p l, x.2 = 0) → span l = (blks false p l).length
  | _, [], _, _ => rfl
  | p, t :: l, h1, h2 => by
    have e := h1 t List.mem_cons_self
    have hb : blks false p (t :: l) = (p, t.1) :: blks false (p + 2 ^ t.1) l := by simp only [blks]; rw [if_pos e]
    have h3 := h2 (p, t.1) (by rw [hb]; exact List.mem_cons_self)
    simp only at h3
    have ih := span_used (p + 2 ^ t.1) l (fun x hx => h1 x (List.mem_cons_of_mem _ hx)) (fun x hx => h2 x (by rw [hb]; exact List.mem_cons_of_mem _ hx))
    rw [hb, List.length_cons, ← ih, span, h3]
    omega
theorem rising_le : ∀ (L M : List Nat), L.Pairwise (· < ·) → (∀ x ∈ L, x ∈ M) → L.length ≤ M.length
  | [], M, _, _ => Nat.zero_le _
  | x :: L, M, h1, h2 => by
    obtain ⟨h3, h4⟩ := List.pairwise_cons.1 h1
    have hx := h2 x List.mem_cons_self
    have ih := rising_le L (M.erase x) h4 fun y hy => (List.mem_erase_of_ne (by have := h3 y hy; omega)).2 (h2 y (List.mem_cons_of_mem _ hy))
    have := List.length_erase_of_mem hx
    have := List.length_pos_of_mem hx
    rw [List.length_cons]
    omega
theorem leaves_count (lf : Nat → Nat) (k : Nat) : (leavesL lf k).length = (List.range k).countP fun j => lf j != 0 := by
  unfold leavesL
  rw [List.length_map, List.countP_eq_length_filter]
theorem leaves_up {lf : Nat → Nat} {j x : Nat} (hj : j < 16) (h0 : lf j = 0) (hx : x ≠ 0) : (leavesL (updF lf j x) 16).length = (leavesL lf 16).length + 1 := by
  rw [leaves_count, leaves_count, countP_turn (fun i => lf i != 0) (fun i => updF lf j x i != 0) j (fun i hi => by rw [updF_other _ _ hi]) (by simp [h0]) (by rw [updF_same]; simp [hx]) 16, if_pos hj]
theorem leaves_down {lf : Nat → Nat} {j : Nat} (hj : j < 16) (h0 : lf j ≠ 0) : (leavesL (updF lf j 0) 16).length + 1 = (leavesL lf 16).length := by
  rw [leaves_count, leaves_count, countP_turn (fun i => updF lf j 0 i != 0) (fun i => lf i != 0) j (fun i hi => by rw [updF_other _ _ hi]) (by rw [updF_same]; rfl) (by simp [h0]) 16, if_pos hj]
/-- the table is alone in its pool, and each leaf has an entry -/
structure Alone (l : List Tl) (P : Nat → List Pg) (lf A : Nat → Nat) (C : Nat) : Prop where
  up : ∀ x ∈ blks false 0 l, x.2 = 0 ∧ ∃ k ∈ cls, ∃ p ∈ P k, p.q = x.1
  p2 : (P 2).length ≤ 1
  pk : ∀ k ∈ cls, k ≠ 2 → k ≠ 7 → P k = []
  ex : ∀ y, y ∈ usedC (mC 7) (szC 7) (P 7) ↔ ∃ j, j < 16 ∧ lf j ≠ 0 ∧ y = ((lf j : Nat) : Int)
  full : ∀ j, j < 16 → lf j ≠ 0 → ∃ i, i < 16 ∧ A (16 * j + i) ≠ 0
  cost : C = 128 + 256 * (leavesL lf 16).length
section
variable {l : List Tl} {P : Nat → List Pg} {lf A : Nat → Nat} {C : Nat}
theorem Alone.pages7 (h : Alone l P lf A C) (hl : FLay l P) (hr : RisesQ (P 7)) : (P 7).length ≤ 16 := by
  have := rising_le ((P 7).map Pg.q) ((List.range 16).map fun j => lf j / 1024) (by rw [List.pairwise_map]; exact hr) fun q hq => by
    obtain ⟨p, hp, rfl⟩ := List.mem_map.1 hq
    obtain ⟨i, hi, hb⟩ := (hl.lay 7 seven_mem).some p hp
    obtain ⟨j, hj, hn, e⟩ := (h.ex _).1 (mem_usedC.2 ⟨p, hp, i, hi, hb, rfl⟩)
    have hm := (place_mod (q := p.q) (cls_facts 7 seven_mem).2.2.1 (by decide) hi).1
    refine List.mem_map.2 ⟨j, List.mem_range.2 hj, ?_⟩
    rw [← hm]
    congr 1
    omega
  simpa using this
theorem Alone.room (h : Alone l P lf A C) (hl : FLay l P) (hr : ∀ k ∈ cls, RisesQ (P k)) (hg : Good 6 l) : takeC 6 l 0 ≠ (0, 4, l) := fun hc => by
  have h1 := full_none hc
  have h2 := span_used 0 l h1 (fun x hx => (h.up x hx).1)
  have h3 := hg.all
  have h4 := rising_le ((blks false 0 l).map Prod.fst) ((P 2).map Pg.q ++ (P 7).map Pg.q) (by rw [List.pairwise_map]; exact blks_rise false 0 l) fun q hq => by
    obtain ⟨x, hx, rfl⟩ := List.mem_map.1 hq
    obtain ⟨_, k, hk, p, hp, e⟩ := h.up x hx
    rw [← e]
    by_cases e2 : k = 2
    · subst e2
      exact List.mem_append_left _ (List.mem_map_of_mem hp)
    · by_cases e7 : k = 7
      · subst e7
        exact List.mem_append_right _ (List.mem_map_of_mem hp)
      · rw [h.pk k hk e2 e7] at hp
        exact absurd hp List.not_mem_nil
  have h5 := h.pages7 hl (hr 7 seven_mem)
  have h6 := h.p2
  rw [List.length_map, List.length_append, List.length_map, List.length_map] at h4
  have e : (2 : Nat) ^ 6 = 64 := by decide
  rw [e] at h3
  omega
theorem up_take {top M size : Nat} {l' : List Tl} {P : Nat → List Pg} {k : Nat} {P' : List Pg} {at_ er : Int} (hk : k ∈ cls) (h : ∀ x ∈ blks false 0 l, x.2 = 0 ∧ ∃ k ∈ cls, ∃ p ∈ P k, p.q = x.1) (ht : TakeS top M size l (P k) at_ er l' P') : ∀ x ∈ blks false 0 l', x.2 = 0 ∧ ∃ j ∈ cls, ∃ p ∈ updF P k P' j, p.q = x.1 := by
  have lift : (∀ p ∈ P k, ∃ p' ∈ P', p'.q = p.q) → ∀ x ∈ blks false 0 l, x.2 = 0 ∧ ∃ j ∈ cls, ∃ p ∈ updF P k P' j, p.q = x.1 := fun hp x hx => by
    obtain ⟨h1, j, hj, p, hpj, e⟩ := h x hx
    refine ⟨h1, j, hj, ?_⟩
    by_cases e2 : j = k
    · subst e2
      obtain ⟨p', hp', e3⟩ := hp p hpj
      exact ⟨p', by rw [updF_same]; exact hp', by rw [e3, e]⟩
    · exact ⟨p, by rw [updF_other _ _ e2]; exact hpj, e⟩
  cases ht with
  | old P1 P2 p j hP hf hi him =>
    refine lift fun y hy => ?_
    rw [hP] at hy
    rcases List.mem_append.1 hy with hy | hy
    · exact ⟨y, List.mem_append_left _ hy, rfl⟩
    · rcases List.mem_cons.1 hy with rfl | hy
      · exact ⟨_, List.mem_append_right _ List.mem_cons_self, rfl⟩
      · exact ⟨y, List.mem_append_right _ (List.mem_cons_of_mem _ hy), rfl⟩
  | none hf hc => exact lift fun y hy => ⟨y, hy, rfl⟩
  | new hf q kk a d hld hq hc i hi hpo p hp hw =>
    intro x hx
    have hsub : ∀ y ∈ P k, ∃ p' ∈ (P k).take i ++ p :: (P k).drop i, p'.q = y.q := fun y hy => by
      rw [← List.take_append_drop i (P k)] at hy
      rcases List.mem_append.1 hy with hy | hy
      · exact ⟨y, List.mem_append_left _ hy, rfl⟩
      · exact ⟨y, List.mem_append_right _ (List.mem_cons_of_mem _ hy), rfl⟩
    rw [used_take] at hx
    have hold := lift hsub
    rw [hld, used_free] at hold
    rcases List.mem_append.1 hx with h1 | h1
    · exact hold x (List.mem_append_left _ h1)
    · rcases List.mem_cons.1 h1 with rfl | h1
      · exact ⟨rfl, k, hk, p, by rw [updF_same]; exact List.mem_append_right _ List.mem_cons_self, by rw [hp, hq]⟩
      · exact hold x (List.mem_append_right _ h1)
theorem up_give' {top : Nat} {l' : List Tl} {P : Nat → List Pg} {k : Nat} {P' : List Pg} (hk : k ∈ cls) (h : ∀ x ∈ blks false 0 l, x.2 = 0 ∧ ∃ k ∈ cls, ∃ p ∈ P k, p.q = x.1)
    (hc : (l' = l ∧ P'.map Pg.q = (P k).map Pg.q) ∨ ∃ P1 p P2, P k = P1 ++ p :: P2 ∧ P' = P1 ++ P2 ∧ ∃ a d, l = a ++ (0, false) :: d ∧ p.q = span a ∧ l' = melt top a.reverse 0 d) : ∀ x ∈ blks false 0 l', x.2 = 0 ∧ ∃ j ∈ cls, ∃ p ∈ updF P k P' j, p.q = x.1 := by
  rcases hc with ⟨rfl, e⟩ | ⟨P1, p, P2, hP, rfl, a, d, rfl, hp, rfl⟩
  · intro x hx
    obtain ⟨h1, j, hj, p, hpj, e3⟩ := h x hx
    refine ⟨h1, j, hj, ?_⟩
    by_cases e2 : j = k
    · subst e2
      have hm : p.q ∈ P'.map Pg.q := by rw [e]; exact List.mem_map_of_mem hpj
      obtain ⟨p', hp', e4⟩ := List.mem_map.1 hm
      exact ⟨p', by rw [updF_same]; exact hp', by rw [e4, e3]⟩
    · exact ⟨p, by rw [updF_other _ _ e2]; exact hpj, e3⟩
  · intro x hx
    rw [melt_used, List.reverse_reverse, span_rev] at hx
    have hr := blks_rise false 0 (a ++ (0, false) :: d)
    rw [blks_same] at hr h
    have hx2 : x ∈ blks false 0 a ++ (span a, 0) :: blks false (span a + 2 ^ 0) d := by
      rcases List.mem_append.1 hx with h1 | h1
      · exact List.mem_append_left _ h1
      · exact List.mem_append_right _ (List.mem_cons_of_mem _ h1)
    have hne : x.1 ≠ span a := by
      have hr' := List.pairwise_append.1 hr
      rcases List.mem_append.1 hx with h1 | h1
      · have := hr'.2.2 x h1 (span a, 0) List.mem_cons_self
        simp only at this
        omega
      · have := (List.pairwise_cons.1 hr'.2.1).1 x h1
        simp only at this
        omega
    obtain ⟨h1, j, hj, y, hyj, e3⟩ := h x hx2
    refine ⟨h1, j, hj, y, ?_, e3⟩
    by_cases e2 : j = k
    · subst e2
      rw [updF_same]
      rw [hP] at hyj
      rcases List.mem_append.1 hyj with h2 | h2
      · exact List.mem_append_left _ h2
      · rcases List.mem_cons.1 h2 with rfl | h2
        · exact absurd (by rw [← e3, hp]) hne
        · exact List.mem_append_right _ h2
    · rw [updF_other _ _ e2]
      exact hyj
end
end Go.Proofs.YtflkoabgkgegjaaDoor
/- What Set and Clear do to a table that is alone in its pool; At. Condition: the table's state. -/
namespace Go.Proofs.YtflkoabgkgegjaaDoor
open Go.RowKit Go.Maps
section
variable {W w w' : World} {pb tb qm fb ga gb b : Nat} {c : Nat → Nat} {xb at_ L n : Nat} {l : List Tl} {P : Nat → List Pg} {f : Nat → Nat} {C : Nat} {lf A B : Nat → Nat}
theorem full_set {s a : Nat} (h : ∀ j, j < 16 → lf j ≠ 0 → ∃ i, i < 16 ∧ A (16 * j + i) ≠ 0) (ha : a ≠ 0) (hs : s < 256) {lf' : Nat → Nat} (hl : ∀ j, j < 16 → lf' j ≠ 0 → j = s / 16 ∨ lf j ≠ 0) : ∀ j, j < 16 → lf' j ≠ 0 → ∃ i, i < 16 ∧ updF A s a (16 * j + i) ≠ 0 := fun j hj hn => by
  by_cases e : j = s / 16
  · refine ⟨s % 16, by omega, ?_⟩
    rw [show 16 * j + s % 16 = s by omega, updF_same]
    exact ha
  · rcases hl j hj hn with h1 | h1
    · exact absurd h1 e
    · obtain ⟨i, hi, h2⟩ := h j hj h1
      refine ⟨i, hi, ?_⟩
      rw [updF_other _ _ (by omega)]
      exact h2
theorem Alone.set (al : Alone l P lf A C) (h : TS W w pb tb qm fb ga gb b c xb at_ L n l P f C lf A B) {s a bb : Nat} {er : Int} {l' : List Tl} {P' : List Pg} {C' : Nat} {lf' A' B' : Nat → Nat} (hr : SetR L l (P 7) f C lf A B s a bb er l' P' C' lf' A' B') (ha : a ≠ 0) (hs : s < 256) :
    Alone l' (updF P 7 P') lf' A' C' ∧ ((er = 0 ∧ A' = updF A s a ∧ B' = updF B s bb ∧ ((lf (s / 16) ≠ 0 ∧ lf' = lf) ∨ (lf (s / 16) = 0 ∧ C + 256 ≤ L ∧ ∃ x, x ≠ 0 ∧ lf' = updF lf (s / 16) x))) ∨ (er = 5 ∧ lf (s / 16) = 0 ∧ L < C + 256 ∧ A' = A ∧ B' = B ∧ lf' = lf)) := by
  rcases hr with ⟨h1, rfl, rfl, rfl, rfl, rfl, rfl, rfl⟩ | ⟨h1, x, f1, hg, h2⟩
  · refine ⟨?_, .inl ⟨rfl, rfl, rfl, .inl ⟨h1, rfl⟩⟩⟩
    rw [updF_eta]
    exact ⟨al.up, al.p2, al.pk, al.ex, full_set al.full ha hs (fun j hj hn => .inr hn), al.cost⟩
  · cases hg with
    | quota hq =>
      rcases h2 with ⟨_, rfl, rfl, rfl⟩ | ⟨e, _⟩
      · rw [updF_eta]
        exact ⟨al, .inr ⟨rfl, h1, hq, rfl, rfl, rfl⟩⟩
      · cases e
    | none _ _ ht => exact absurd ht (al.room h.pl.lay (fun k hk => h.pl.rise hk) h.pl.good)
    | yes hq a0 ha0 l' P' ht =>
      rcases h2 with ⟨e, _⟩ | ⟨_, xa, hx, hx0, hiff, rfl, rfl, rfl⟩
      · exact absurd rfl e
      · have e0 : a0 = xa := by omega
        subst e0
        have hj : s / 16 < 16 := by omega
        refine ⟨⟨up_take seven_mem al.up ht, by rw [updF_other _ _ (by decide)]; exact al.p2, fun k hk h2 h7 => by rw [updF_other _ _ h7]; exact al.pk k hk h2 h7, fun y => ?_, full_set al.full ha hs (fun j hj hn => ?_), ?_⟩, .inl ⟨rfl, rfl, rfl, .inr ⟨h1, hq, a0, hx0, rfl⟩⟩⟩
        · rw [updF_same, hiff, al.ex]
          constructor
          · rintro (⟨j, hj2, hn, rfl⟩ | rfl)
            · have e : j ≠ s / 16 := fun e => hn (by rw [e]; exact h1)
              exact ⟨j, hj2, by rw [updF_other _ _ e]; exact hn, by rw [updF_other _ _ e]⟩
            · exact ⟨s / 16, hj, by rw [updF_same]; exact hx0, by rw [updF_same]⟩
          · rintro ⟨j, hj2, hn, rfl⟩
            by_cases e : j = s / 16
            · subst e
              rw [updF_same]
              exact .inr rfl
            · rw [updF_other _ _ e] at hn ⊢
              exact .inl ⟨j, hj2, hn, rfl⟩
        · by_cases e : j = s / 16
          · exact .inl e
          · rw [updF_other _ _ e] at hn
            exact .inr hn
        · rw [leaves_up hj h1 hx0, al.cost]
          show 128 + 256 * (leavesL lf 16).length + 256 = _
          omega
theorem Alone.clear (al : Alone l P lf A C) (h : TS W w pb tb qm fb ga gb b c xb at_ L n l P f C lf A B) {s : Nat} {l' : List Tl} {P' : List Pg} {C' : Nat} {lf' A' B' : Nat → Nat} (hr : ClearR l (P 7) C lf A B s l' P' C' lf' A' B') (ha : A s ≠ 0) (hs : s < 256) :
    Alone l' (updF P 7 P') lf' A' C' ∧ A' = updF A s 0 ∧ B' = updF B s 0 := by
  have hl : lf (s / 16) ≠ 0 := fun e => ha (by
    have := h.rel.no (s / 16) (s % 16) (by omega) (by omega) e
    rw [show 16 * (s / 16) + s % 16 = s by omega] at this
    exact this.1)
  have oth : ∀ j, j ≠ s / 16 → ∀ i, i < 16 → updF A s 0 (16 * j + i) = A (16 * j + i) := fun j e i hi => updF_other _ _ (by omega)
  obtain ⟨rfl, rfl, ⟨hn, rfl, rfl, rfl, rfl⟩ | ⟨hz, hCC, rfl, hiff, hc⟩⟩ := hr
  · refine ⟨?_, rfl, rfl⟩
    rw [updF_eta]
    refine ⟨al.up, al.p2, al.pk, al.ex, fun j hj hnj => ?_, al.cost⟩
    by_cases e : j = s / 16
    · subst e
      refine Decidable.byContradiction fun hc => hn fun i hi => Decidable.byContradiction fun h2 => hc ⟨i, hi, h2⟩
    · obtain ⟨i, hi, h2⟩ := al.full j hj hnj
      exact ⟨i, hi, by rw [oth j e i hi]; exact h2⟩
  · have hj : s / 16 < 16 := by omega
    refine ⟨⟨up_give' seven_mem al.up hc, by rw [updF_other _ _ (by decide)]; exact al.p2, fun k hk h2 h7 => by rw [updF_other _ _ h7]; exact al.pk k hk h2 h7, fun y => ?_, fun j hj2 hnj => ?_, ?_⟩, rfl, rfl⟩
    · rw [updF_same, hiff, al.ex]
      constructor
      · rintro ⟨⟨j, hj2, hn, rfl⟩, hne⟩
        have e : j ≠ s / 16 := fun e => hne (by rw [e])
        exact ⟨j, hj2, by rw [updF_other _ _ e]; exact hn, by rw [updF_other _ _ e]⟩
      · rintro ⟨j, hj2, hn, rfl⟩
        have e : j ≠ s / 16 := fun e => by
          subst e
          rw [updF_same] at hn
          exact hn rfl
        rw [updF_other _ _ e] at hn ⊢
        exact ⟨⟨j, hj2, hn, rfl⟩, fun e2 => h.inj j (s / 16) hj2 hj e hn (by omega)⟩
    · have e : j ≠ s / 16 := fun e => by
        subst e
        rw [updF_same] at hnj
        exact hnj rfl
      rw [updF_other _ _ e] at hnj
      obtain ⟨i, hi, h2⟩ := al.full j hj2 hnj
      exact ⟨i, hi, by rw [oth j e i hi]; exact h2⟩
    · have := leaves_down hj hl
      rw [hCC, al.cost]
      omega
theorem Alone.pay (al : Alone l P lf A C) (h : TS W w pb tb qm fb ga gb b c xb at_ L n l P f C lf A B) {s : Nat} (ha : A s ≠ 0) (hs : s < 256) : 256 ≤ C := by
  have hl : lf (s / 16) ≠ 0 := fun e => ha (by
    have := h.rel.no (s / 16) (s % 16) (by omega) (by omega) e
    rw [show 16 * (s / 16) + s % 16 = s by omega] at this
    exact this.1)
  have := leaves_down (lf := lf) (j := s / 16) (by omega) hl
  rw [al.cost]
  omega
set_option maxRecDepth 100000 in
theorem tat_yes (h : PL W w pb tb qm fb ga gb b c L n l P f C) (hC : TabC W) (X : Int) (hX : X ∈ usedC (mC 2) (szC 2) (P 2)) :
    Calls Tryd.prog 9 #[.pointer (some ⟨pb, 0, none⟩), .int .i64 0, .int .i64 X] w fun e w' => ∃ xb, e = .returned (.pointer (some ⟨xb, 0, none⟩)) ∧ PL W w' pb tb qm fb ga gb b c L n l P f C ∧ Keep w w' ∧ w'.heap[xb]? = some (.cells #[.pointer (some ⟨pb, 0, none⟩), .int .i64 0, .int .i64 X] 70 (0, 0)) := by
  obtain ⟨a, ha, hab, _⟩ := used_place (h.lay.lay 2 two_mem) h.good (cls_facts 2 two_mem).2.2.1 (sz16 two_mem) hX
  have HP := Lib.hid (phas h hC two_mem 2 rfl X (WalkArith.wf_i64 (by omega)) true (by simp [hX]))
  clear h hC hX ha hab
  go_enter Tryd.func9, Tryd.ntmps9
  go_wp2_with fail
  refine HP.out.mono ?_
  rintro e w2 ⟨rfl, h2, k2⟩
  have H2 := Lib.hid h2
  have K2 := Lib.hid k2
  clear h2 k2
  go_wp2
  go_ret
  have hb : Below w2.heap.size w2 (w2.alloc (.cells #[.pointer (some ⟨pb, 0, none⟩), .int .i64 0, .int .i64 X] 70)) := (Below.refl _ w2).alloc (Nat.le_refl _) _
  exact ⟨_, rfl, H2.out.below hb, K2.out.trans (Keep.of_below hb), heap_alloc_new w2 _⟩
set_option maxRecDepth 100000 in
theorem tat_no (h : PL W w pb tb qm fb ga gb b c L n l P f C) (hC : TabC W) (X : Int) (hw : (Lit.int .i64 X).wf = true) (hX : X ∉ usedC (mC 2) (szC 2) (P 2)) :
    Calls Tryd.prog 9 #[.pointer (some ⟨pb, 0, none⟩), .int .i64 0, .int .i64 X] w fun e w' => e = .returned (.pointer none) ∧ PL W w' pb tb qm fb ga gb b c L n l P f C ∧ Keep w w' := by
  have HP := Lib.hid (phas h hC two_mem 2 rfl X hw false (by simp [hX]))
  clear h hC hX hw
  go_enter Tryd.func9, Tryd.ntmps9
  go_wp2_with fail
  refine HP.out.mono ?_
  rintro e w2 ⟨rfl, h2, k2⟩
  have H2 := Lib.hid h2
  have K2 := Lib.hid k2
  clear h2 k2
  go_wp2
  go_ret
  exact ⟨rfl, H2.out, K2.out⟩
/-- the first place of a new pool -/
theorem pget_first (h : PL W w pb tb qm fb ga gb b c L 0 [(6, true)] (fun _ => []) (fun _ => 0) 0) (hZ : TabZ W) (hC : TabC W) (hL : 128 ≤ L) :
    Calls Tryd.prog 8 #[.pointer (some ⟨pb, 0, none⟩), .int .i64 0, .int .i64 2] w fun e w' => ∃ (X : Int) (a : Nat) (l' : List Tl) (P' : List Pg), X = (a : Int) ∧ a ≤ 65536 - 128 ∧ e = .returned (.tuple #[.int .i64 X, .int .i64 0]) ∧ PL W w' pb tb qm fb ga gb b c L 1 l' (updF (fun _ => []) 2 P') (Ar.fillF (fun _ => 0) a 128 0) 128 ∧ KeepP w w' ∧ X ∈ usedC (mC 2) (szC 2) P' ∧ Alone l' (updF (fun _ => []) 2 P') (fun _ => 0) (fun _ => 0) 128 := by
  refine (pget h hZ hC (by omega) two_mem 2 rfl).mono ?_
  rintro e w' ⟨x, er, l', P', f', C', rfl, hg, h2, k2⟩
  cases hg with
  | quota hq => exact absurd hq (by have : szC 2 = 128 := rfl; omega)
  | none _ _ ht => exact absurd (full_none ht (6, true) List.mem_cons_self) (by decide)
  | yes hq a ha l' P' ht =>
    have hcf := cls_facts 2 two_mem
    have hus := ht.used (P := []) (h.lay.lay 2 two_mem) List.Pairwise.nil (fun p hp => absurd hp List.not_mem_nil) hcf.2.2.1 (by omega) hcf.2.2.2.2.2.2.1
    rcases hus with ⟨e, _⟩ | ⟨_, _, hiff⟩
    · cases e
    have ha' : a + 128 ≤ 65536 := ha
    refine ⟨_, a, l', P', rfl, by omega, rfl, h2, k2, (hiff _).2 (.inr rfl), up_take two_mem (P := fun _ => []) (fun x hx => by simp [blks] at hx) ht, ?_, fun k hk h2 h7 => by rw [updF_other _ _ h2], fun y => ?_, fun j hj hn => absurd rfl hn, ?_⟩
    · rw [updF_same]
      generalize hv : ((a : Nat) : Int) = v at ht
      generalize he : (0 : Int) = er at ht
      cases ht with
      | old P1 P2 p i hP => exact absurd hP (by simp)
      | none => exact absurd he (by decide)
      | new hf q kk aa d hld hq hc i hi hpo p hp hw => simp
    · rw [updF_other _ _ (by decide)]
      constructor
      · intro hy
        simp [usedC] at hy
      · rintro ⟨j, _, hn, _⟩
        exact absurd rfl hn
    · decide
theorem zero_rel (a : Nat) : TRel (Ar.fillF (fun _ => 0) a 128 0) a (fun _ => 0) (fun _ => 0) (fun _ => 0) :=
  ⟨fillF_lt (fun i => by decide) a 128, fun j hj => wd_fill_in (by omega) (by omega), fun j i _ _ hn => absurd rfl hn, fun j i _ _ _ => ⟨rfl, rfl⟩⟩
/-- the first table of a new pool -/
theorem tat_first {l' : List Tl} {P' : List Pg} (a : Nat) (X : Int) (hX : X = (a : Int)) (h : PL W w pb tb qm fb ga gb b c L 1 l' (updF (fun _ => []) 2 P') (Ar.fillF (fun _ => 0) a 128 0) 128) (hC : TabC W) (hx : X ∈ usedC (mC 2) (szC 2) P') :
    Calls Tryd.prog 9 #[.pointer (some ⟨pb, 0, none⟩), .int .i64 0, .int .i64 X] w fun e w' => ∃ xb, e = .returned (.pointer (some ⟨xb, 0, none⟩)) ∧ TS W w' pb tb qm fb ga gb b c xb a L 1 l' (updF (fun _ => []) 2 P') (Ar.fillF (fun _ => 0) a 128 0) 128 (fun _ => 0) (fun _ => 0) (fun _ => 0) ∧ Keep w w' := by
  refine (tat_yes h hC X (by rw [updF_same]; exact hx)).mono ?_
  rintro e w' ⟨xb, he, h2, k2, hr⟩
  subst hX
  exact ⟨xb, he, ⟨h2, hr, zero_rel a, by rw [updF_same]; exact hx, fun j hj hn => absurd rfl hn, fun i j _ _ _ hn => absurd rfl hn, fun s _ _ => rfl⟩, k2⟩
end
end Go.Proofs.YtflkoabgkgegjaaDoor
