/- The plain law of taking blocks, of what is taken and given back at once, and of an allocator without a used block. No condition. -/
import Derived.Test.YtflkoabgkgegjaaDoorY5
/- The plain law of taking blocks, of what is taken and given back at once, and of an allocator without a used block. No condition. -/
namespace Go.Proofs.YtflkoabgkgegjaaDoor

theorem pieces_cons (o : Nat) : ∀ n, pieces o (n + 1) = (o, true) :: pieces (o + 1) n
  | 0 => rfl
  | n + 1 => by
    show pieces o (n + 1) ++ [(o + (n + 1), true)] = _
    rw [pieces_cons o n]
    show (o, true) :: (pieces (o + 1) n ++ [(o + (n + 1), true)]) = (o, true) :: (pieces (o + 1) n ++ [(o + 1 + n, true)])
    rw [show o + (n + 1) = o + 1 + n by omega]
theorem pieces_free {o n : Nat} {t : Tl} (h : t ∈ pieces o n) : t.2 = true ∧ o ≤ t.1 ∧ t.1 < o + n := by
  induction n with
  | zero => exact absurd h List.not_mem_nil
  | succ n ih =>
    rcases List.mem_append.1 h with h | h
    · have := ih h; exact ⟨this.1, this.2.1, by omega⟩
    · rw [List.mem_singleton.1 h]
      exact ⟨rfl, by simp only; omega, by simp only; omega⟩
/-- pieces lie where they may, and are apart, behind a block of the least order -/
theorem pieces_lie (p : Nat) : ∀ (n o : Nat), p % 2 ^ (o + n) = 0 → Lies (p + 2 ^ o) (pieces o n) ∧ Apart (p + 2 ^ o) (pieces o n)
  | 0, _, _ => ⟨trivial, trivial⟩
  | n + 1, o, h => by
    rw [pieces_cons]
    have h1 : p % 2 ^ (o + 1 + n) = 0 := by rwa [show o + 1 + n = o + (n + 1) by omega]
    obtain ⟨i1, i2⟩ := pieces_lie p n (o + 1) h1
    have p2 : 2 ^ (o + 1) = 2 ^ o + 2 ^ o := by rw [Nat.pow_succ]; omega
    have e : p + 2 ^ o + 2 ^ o = p + 2 ^ (o + 1) := by omega
    have hm : p % 2 ^ o = 0 := pow_dvd_mod (by omega) h
    refine ⟨⟨by simp only; rw [Nat.add_mod_right]; exact hm, by simp only; rw [e]; exact i1⟩, ⟨fun u l' el => ?_, by simp only; rw [e]; exact i2⟩⟩
    rintro ⟨rfl, _, _⟩
    cases n with
    | zero => cases el
    | succ n =>
      rw [pieces_cons] at el
      injection el with e1 e2
      injection e1 with e3 e4
      omega
theorem add_half {p k : Nat} (h : p % 2 ^ (k + 1) = 0) : (p + 2 ^ k) % 2 ^ (k + 1) ≠ 0 := by
  have p2 : 2 ^ (k + 1) = 2 ^ k + 2 ^ k := by rw [Nat.pow_succ]; omega
  have := two_pos k
  rw [Nat.add_mod, h, Nat.zero_add, Nat.mod_mod, Nat.mod_eq_of_lt (by omega)]
  omega
theorem take_good {top k o : Nat} {a b : List Tl} (h : Good top (a ++ (k, true) :: b)) (ho : o ≤ k) : Good top (takeT o k a b) := by
  obtain ⟨n, rfl⟩ : ∃ n, k = o + n := ⟨k - o, by omega⟩
  unfold takeT
  rw [show o + n - o = n by omega]
  have hM := Mid.of_good h
  have hat := hM.at_
  have hall := h.all
  have hle := hM.le
  rw [span_rev] at hat
  obtain ⟨i1, i2⟩ := pieces_lie (span a) n o hat
  have hsp := span_pieces o n
  have hA := hM.liesA; have hB := hM.liesB; have pA := hM.apartA; have pB := hM.apartB
  rw [List.reverse_reverse] at hA pA
  rw [span_rev] at hB pB
  rw [span_append] at hall
  simp only [span] at hall
  have e1 : span a + 2 ^ o + span (pieces o n) = span a + 2 ^ (o + n) := by omega
  refine ⟨by rw [span_append]; simp only [span, span_append]; omega, lies_append.2 ⟨hA, ?_⟩, ?_, fun t ht => ?_⟩
  · rw [Nat.zero_add]
    exact ⟨pow_dvd_mod (by omega) hat, lies_append.2 ⟨i1, by rw [e1]; exact hB⟩⟩
  · refine apart_join pA ?_ ?_
    · rw [Nat.zero_add]
      refine ⟨fun u l' _ => ?_, ?_⟩
      · rintro ⟨_, h2, _⟩
        cases h2
      · refine apart_join i2 (by rw [e1]; exact pB) ?_
        intro a' t b' q1 q2 q3 q4
        cases n with
        | zero => cases a' <;> cases q1
        | succ n =>
          have q5 : pieces o (n + 1) = pieces o n ++ [(o + n, true)] := rfl
          rw [q5] at q1
          obtain ⟨q6, q7⟩ := List.append_inj' q1 rfl
          injection q7 with q7 _
          subst q7 q6
          have := span_pieces o n
          rw [show span a + 2 ^ o + span (pieces o n) = span a + 2 ^ (o + n) by omega] at q4
          exact add_half hat q4
    · intro a' t b' _ q2 q3 _
      injection q2 with q2 _
      rw [← q2] at q3
      cases q3
  · rcases List.mem_append.1 ht with ht | ht
    · exact h.le t (List.mem_append_left _ ht)
    · rcases List.mem_cons.1 ht with rfl | ht
      · simp only; omega
      · rcases List.mem_append.1 ht with ht | ht
        · have := pieces_free ht; omega
        · exact h.le t (List.mem_append_right _ (List.mem_cons_of_mem _ ht))
theorem take_used {o k : Nat} (a b : List Tl) (ho : o ≤ k) : blks false 0 (takeT o k a b) = blks false 0 a ++ (span a, o) :: blks false (span a + 2 ^ k) b := by
  obtain ⟨n, rfl⟩ : ∃ n, k = o + n := ⟨k - o, by omega⟩
  unfold takeT
  rw [show o + n - o = n by omega, blks_append, Nat.zero_add]
  simp only [blks, if_true]
  have : ∀ p n, blks false p (pieces o n) = [] := fun p n => by
    induction n with
    | zero => rfl
    | succ n ih =>
      show blks false p (pieces o n ++ [(o + n, true)]) = []
      rw [blks_append, ih]
      simp [blks]
  have hsp := span_pieces o n
  rw [blks_append, this, List.nil_append, show span a + 2 ^ o + span (pieces o n) = span a + 2 ^ (o + n) by omega]
/-- what is taken and given back at once leaves all as it was -/
theorem take_give {top k : Nat} {a b : List Tl} (h : Good top (a ++ (k, true) :: b)) : ∀ (n o : Nat), o + n = k → melt (top - o) a.reverse o (pieces o n ++ b) = a ++ (k, true) :: b := by
  have hM := Mid.of_good h
  have hat := hM.at_
  have hle := hM.le
  rw [span_rev] at hat
  intro n
  induction n with
  | zero =>
    intro o ho
    have ho : o = k := by omega
    subst ho
    by_cases hk : o < top
    · obtain ⟨m, hm⟩ : ∃ m, top - o = m + 1 := ⟨top - o - 1, by omega⟩
      rw [hm]
      cases hs : step a.reverse o (pieces o 0 ++ b) with
      | none => rw [melt_stop hs]; simp [pieces]
      | some x =>
        exfalso
        obtain ⟨ra', b'⟩ := x
        have hp := apart_append h.apart
        rcases step_some hs with ⟨e, e1, e2⟩ | ⟨e, e1, e2⟩
        · have e3 : b = (o, true) :: b' := e2
          subst e3
          rw [span_rev] at e
          exact hp.2.1 _ _ rfl ⟨rfl, rfl, by rw [Nat.zero_add]; exact even_mod hat e⟩
        · have e3 : a = ra'.reverse ++ [(o, true)] := by
            have := congrArg List.reverse e1
            simpa using this
          subst e3
          have h2 := h.apart
          rw [List.append_assoc] at h2
          have h3 := (apart_append h2).2
          rw [span_append, span_rev] at hat
          simp only [span] at hat
          rw [span_rev, span_append, span_rev] at e
          simp only [span] at e
          exact h3.1 _ _ rfl ⟨rfl, rfl, by rw [Nat.zero_add, span_rev]; exact odd_mod (by simpa using hat) (by simpa using e)⟩
    · rw [show top - o = 0 by omega]
      show a.reverse.reverse ++ _ = _
      rw [List.reverse_reverse]
      rfl
  | succ n ih =>
    intro o ho
    obtain ⟨m, hm⟩ : ∃ m, top - o = m + 1 := ⟨top - o - 1, by omega⟩
    rw [hm, pieces_cons, List.cons_append, melt_step (step_right (by rw [span_rev]; exact mod_even (pow_dvd_mod (show o + 1 ≤ k by omega) hat)))]
    rw [show m = top - (o + 1) by omega]
    exact ih (o + 1) (by omega)
/-- tiles that are long enough part at half -/
theorem half_split : ∀ (l : List Tl) (p k s : Nat), s % 2 ^ 0 = 0 → (p + s) % 1 = 0 → Lies (p + s) l → p % 2 ^ k = 0 → s ≤ 2 ^ k → 2 ^ k ≤ s + span l → (∀ t ∈ l, t.1 ≤ k) → ∃ a b, l = a ++ b ∧ s + span a = 2 ^ k
  | [], p, k, s, _, _, _, _, h1, h2, _ => ⟨[], [], rfl, by simp only [span] at h2 ⊢; omega⟩
  | t :: l, p, k, s, z1, z2, hl, hp, h1, h2, hle => by
    by_cases e : s = 2 ^ k
    · exact ⟨[], t :: l, rfl, by simp only [span]; omega⟩
    · have htk := hle t List.mem_cons_self
      have ht := hl.1
      have hs : s % 2 ^ t.1 = 0 := by
        have h3 := pow_dvd_mod htk hp
        rw [Nat.add_mod, h3, Nat.zero_add, Nat.mod_mod] at ht
        exact ht
      have hk : 2 ^ k % 2 ^ t.1 = 0 := Nat.mod_eq_zero_of_dvd (Nat.pow_dvd_pow 2 htk)
      have hsum : s + 2 ^ t.1 ≤ 2 ^ k := by
        obtain ⟨c, hc⟩ := Nat.dvd_of_mod_eq_zero hs
        obtain ⟨d, hd⟩ := Nat.dvd_of_mod_eq_zero hk
        rw [hd] at h1 e ⊢
        subst hc
        have : c < d := by
          by_cases q : c < d
          · exact q
          · exfalso
            have := Nat.mul_le_mul_left (2 ^ t.1) (show d ≤ c by omega)
            omega
        have := Nat.mul_le_mul_left (2 ^ t.1) (show c + 1 ≤ d by omega)
        rw [Nat.mul_add, Nat.mul_one] at this
        exact this
      obtain ⟨a, b, e1, e2⟩ := half_split l p k (s + 2 ^ t.1) (Nat.mod_one _) (Nat.mod_one _) (by rw [show p + (s + 2 ^ t.1) = p + s + 2 ^ t.1 by omega]; exact hl.2) hp hsum (by simp only [span] at h2; omega) (fun u hu => hle u (List.mem_cons_of_mem _ hu))
      exact ⟨t :: a, b, by rw [e1]; rfl, by simp only [span]; omega⟩
theorem span_pos {t : Tl} {l : List Tl} (h : t ∈ l) : 2 ^ t.1 ≤ span l := by
  obtain ⟨a, b, rfl⟩ := List.append_of_mem h
  rw [span_append]
  simp only [span]
  omega
/-- where all is free there is one block -/
theorem all_free : ∀ (k p : Nat) (l : List Tl), span l = 2 ^ k → p % 2 ^ k = 0 → Lies p l → Apart p l → (∀ t ∈ l, t.2 = true) → l = [(k, true)]
  | 0, p, l, hs, _, _, _, hf => by
    cases l with
    | nil => simp [span] at hs
    | cons t l =>
      have := two_pos t.1
      simp only [span] at hs
      have h0 : 2 ^ t.1 = 1 := by omega
      have h1 : t.1 = 0 := by
        cases h : t.1 with
        | zero => rfl
        | succ n => rw [h, Nat.pow_succ] at h0; have := two_pos n; omega
      cases l with
      | nil =>
        have := hf t List.mem_cons_self
        obtain ⟨x, y⟩ := t
        simp only at h1 this
        rw [h1, this]
      | cons u l =>
        have := two_pos u.1
        simp only [span] at hs
        omega
  | k + 1, p, l, hs, hp, hl, ha, hf => by
    have p2 : 2 ^ (k + 1) = 2 ^ k + 2 ^ k := by rw [Nat.pow_succ]; omega
    have hk := two_pos k
    by_cases hbig : ∃ t ∈ l, k < t.1
    · obtain ⟨t, ht, hkt⟩ := hbig
      obtain ⟨a, b, rfl⟩ := List.append_of_mem ht
      rw [span_append] at hs
      simp only [span] at hs
      have h1 : 2 ^ (k + 1) ≤ 2 ^ t.1 := Nat.pow_le_pow_right (by decide) (by omega)
      have z : ∀ l : List Tl, span l = 0 → l = [] := fun l hl => by
        cases l with
        | nil => rfl
        | cons t l => have := two_pos t.1; simp only [span] at hl; omega
      have e1 := z a (by omega)
      have e2 := z b (by omega)
      subst e1 e2
      have h2 : t.1 = k + 1 := by
        have h3 : 2 ^ t.1 = 2 ^ (k + 1) := by simp only [span] at hs; omega
        have h4 : t.1 ≤ k + 1 := (Nat.pow_le_pow_iff_right (by decide)).1 (Nat.le_of_eq h3)
        omega
      have := hf t (by simp)
      obtain ⟨x, y⟩ := t
      simp only at h2 this
      rw [h2, this]
      rfl
    · exfalso
      have hle : ∀ t ∈ l, t.1 ≤ k := fun t ht => by
        by_cases q : k < t.1
        · exact absurd ⟨t, ht, q⟩ hbig
        · omega
      have hp2 : p % 2 ^ k = 0 := pow_dvd_mod (by omega) hp
      obtain ⟨a, b, rfl, hsa⟩ := half_split l p k 0 (Nat.mod_one _) (Nat.mod_one _) hl hp2 (by omega) (by omega) hle
      rw [Nat.zero_add] at hsa
      rw [span_append] at hs
      obtain ⟨l1, l2⟩ := lies_append.1 hl
      obtain ⟨a1, a2⟩ := apart_append ha
      have e1 := all_free k p a hsa hp2 l1 a1 (fun t ht => hf t (List.mem_append_left _ ht))
      have e2 := all_free k (p + span a) b (by omega) (by rw [hsa, Nat.add_mod_right]; exact hp2) l2 a2 (fun t ht => hf t (List.mem_append_right _ ht))
      subst e1 e2
      exact ha.1 _ _ rfl ⟨rfl, rfl, hp⟩
theorem good_free {top : Nat} {l : List Tl} (h : Good top l) (hf : ∀ t ∈ l, t.2 = true) : l = [(top, true)] := all_free top 0 l h.all (Nat.zero_mod _) h.lies h.apart hf
theorem good_start (top : Nat) : Good top [(top, true)] := ⟨by simp [span], ⟨Nat.zero_mod _, trivial⟩, ⟨fun _ _ e => (by cases e), trivial⟩, fun t ht => by rw [List.mem_singleton.1 ht]; exact Nat.le_refl _⟩
end Go.Proofs.YtflkoabgkgegjaaDoor
