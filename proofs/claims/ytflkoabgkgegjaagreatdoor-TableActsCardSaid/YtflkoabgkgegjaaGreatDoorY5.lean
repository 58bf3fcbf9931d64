/- The plain law of taking blocks, of what is taken and given back at once, and of an allocator without a used block. No condition. And what follows from it. -/
import Derived.Test.YtflkoabgkgegjaaGreatDoorY4
/- The plain law of taking blocks, of what is taken and given back at once, and of an allocator without a used block. No condition. -/
namespace Go.Proofs.YtflkoabgkgegjaaGreatDoor

theorem pieces_cons (o : Nat) : ∀ n, pieces o (n + 1) = (o, true) :: pieces (o + 1) n
  | 0 => rfl
  | n + 1 => by
    show pieces o (n + 1) ++ [(o + (n + 1), true)] = _
    rw [pieces_cons o n]
    show (o, true) :: (pieces (o + 1) n ++ [(o + (n + 1), true)]) = (o, true) :: (pieces (o + 1) n ++ [(o + 1 + n, true)])
    rw [show o + (n + 1) = o + 1 + n by omega]
theorem pieces_free {o n : Nat} {t : Tl} (h : t ∈ pieces o n) : t.2 = true ∧ o ≤ t.1 ∧ t.1 < o + n := by
  induction n with
  | zero => exact absurd h List.not_mem_nil
  | succ n ih =>
    rcases List.mem_append.1 h with h | h
    · have := ih h; exact ⟨this.1, this.2.1, by omega⟩
    · rw [List.mem_singleton.1 h]
      exact ⟨rfl, by simp only; omega, by simp only; omega⟩
/-- pieces lie where they may, and are apart, behind a block of the least order -/
theorem pieces_lie (p : Nat) : ∀ (n o : Nat), p % 2 ^ (o + n) = 0 → Lies (p + 2 ^ o) (pieces o n) ∧ Apart (p + 2 ^ o) (pieces o n)
  | 0, _, _ => ⟨trivial, trivial⟩
  | n + 1, o, h => by
    rw [pieces_cons]
    have h1 : p % 2 ^ (o + 1 + n) = 0 := by rwa [show o + 1 + n = o + (n + 1) by omega]
    obtain ⟨i1, i2⟩ := pieces_lie p n (o + 1) h1
    have p2 : 2 ^ (o + 1) = 2 ^ o + 2 ^ o := by rw [Nat.pow_succ]; omega
    have e : p + 2 ^ o + 2 ^ o = p + 2 ^ (o + 1) := by omega
    have hm : p % 2 ^ o = 0 := pow_dvd_mod (by omega) h
    refine ⟨⟨by simp only; rw [Nat.add_mod_right]; exact hm, by simp only; rw [e]; exact i1⟩, ⟨fun u l' el => ?_, by simp only; rw [e]; exact i2⟩⟩
    rintro ⟨rfl, _, _⟩
    cases n with
    | zero => cases el
    | succ n =>
      rw [pieces_cons] at el
      injection el with e1 e2
      injection e1 with e3 e4
      omega
theorem add_half {p k : Nat} (h : p % 2 ^ (k + 1) = 0) : (p + 2 ^ k) % 2 ^ (k + 1) ≠ 0 := by
  have p2 : 2 ^ (k + 1) = 2 ^ k + 2 ^ k := by rw [Nat.pow_succ]; omega
  have := two_pos k
  rw [Nat.add_mod, h, Nat.zero_add, Nat.mod_mod, Nat.mod_eq_of_lt (by omega)]
  omega
theorem take_good {top k o : Nat} {a b : List Tl} (h : Good top (a ++ (k, true) :: b)) (ho : o ≤ k) : Good top (takeT o k a b) := by
  obtain ⟨n, rfl⟩ : ∃ n, k = o + n := ⟨k - o, by omega⟩
  unfold takeT
  rw [show o + n - o = n by omega]
  have hM := Mid.of_good h
  have hat := hM.at_
  have hall := h.all
  have hle := hM.le
  rw [span_rev] at hat
  obtain ⟨i1, i2⟩ := pieces_lie (span a) n o hat
  have hsp := span_pieces o n
  have hA := hM.liesA; have hB := hM.liesB; have pA := hM.apartA; have pB := hM.apartB
  rw [List.reverse_reverse] at hA pA
  rw [span_rev] at hB pB
  rw [span_append] at hall
  simp only [span] at hall
  have e1 : span a + 2 ^ o + span (pieces o n) = span a + 2 ^ (o + n) := by omega
  refine ⟨by rw [span_append]; simp only [span, span_append]; omega, lies_append.2 ⟨hA, ?_⟩, ?_, fun t ht => ?_⟩
  · rw [Nat.zero_add]
    exact ⟨pow_dvd_mod (by omega) hat, lies_append.2 ⟨i1, by rw [e1]; exact hB⟩⟩
  · refine apart_join pA ?_ ?_
    · rw [Nat.zero_add]
      refine ⟨fun u l' _ => ?_, ?_⟩
      · rintro ⟨_, h2, _⟩
        cases h2
      · refine apart_join i2 (by rw [e1]; exact pB) ?_
        intro a' t b' q1 q2 q3 q4
        cases n with
        | zero => cases a' <;> cases q1
        | succ n =>
          have q5 : pieces o (n + 1) = pieces o n ++ [(o + n, true)] := rfl
          rw [q5] at q1
          obtain ⟨q6, q7⟩ := List.append_inj' q1 rfl
          injection q7 with q7 _
          subst q7 q6
          have := span_pieces o n
          rw [show span a + 2 ^ o + span (pieces o n) = span a + 2 ^ (o + n) by omega] at q4
          exact add_half hat q4
    · intro a' t b' _ q2 q3 _
      injection q2 with q2 _
      rw [← q2] at q3
      cases q3
  · rcases List.mem_append.1 ht with ht | ht
    · exact h.le t (List.mem_append_left _ ht)
    · rcases List.mem_cons.1 ht with rfl | ht
      · simp only; omega
      · rcases List.mem_append.1 ht with ht | ht
        · have := pieces_free ht; omega
        · exact h.le t (List.mem_append_right _ (List.mem_cons_of_mem _ ht))
theorem take_used {o k : Nat} (a b : List Tl) (ho : o ≤ k) : blks false 0 (takeT o k a b) = blks false 0 a ++ (span a, o) :: blks false (span a + 2 ^ k) b := by
  obtain ⟨n, rfl⟩ : ∃ n, k = o + n := ⟨k - o, by omega⟩
  unfold takeT
  rw [show o + n - o = n by omega, blks_append, Nat.zero_add]
  simp only [blks, if_true]
  have : ∀ p n, blks false p (pieces o n) = [] := fun p n => by
    induction n with
    | zero => rfl
    | succ n ih =>
      show blks false p (pieces o n ++ [(o + n, true)]) = []
      rw [blks_append, ih]
      simp [blks]
  have hsp := span_pieces o n
  rw [blks_append, this, List.nil_append, show span a + 2 ^ o + span (pieces o n) = span a + 2 ^ (o + n) by omega]
/-- what is taken and given back at once leaves all as it was -/
theorem take_give {top k : Nat} {a b : List Tl} (h : Good top (a ++ (k, true) :: b)) : ∀ (n o : Nat), o + n = k → melt (top - o) a.reverse o (pieces o n ++ b) = a ++ (k, true) :: b := by
  have hM := Mid.of_good h
  have hat := hM.at_
  have hle := hM.le
  rw [span_rev] at hat
  intro n
  induction n with
  | zero =>
    intro o ho
    have ho : o = k := by omega
    subst ho
    by_cases hk : o < top
    · obtain ⟨m, hm⟩ : ∃ m, top - o = m + 1 := ⟨top - o - 1, by omega⟩
      rw [hm]
      cases hs : step a.reverse o (pieces o 0 ++ b) with
      | none => rw [melt_stop hs]; simp [pieces]
      | some x =>
        exfalso
        obtain ⟨ra', b'⟩ := x
        have hp := apart_append h.apart
        rcases step_some hs with ⟨e, e1, e2⟩ | ⟨e, e1, e2⟩
        · have e3 : b = (o, true) :: b' := e2
          subst e3
          rw [span_rev] at e
          exact hp.2.1 _ _ rfl ⟨rfl, rfl, by rw [Nat.zero_add]; exact even_mod hat e⟩
        · have e3 : a = ra'.reverse ++ [(o, true)] := by
            have := congrArg List.reverse e1
            simpa using this
          subst e3
          have h2 := h.apart
          rw [List.append_assoc] at h2
          have h3 := (apart_append h2).2
          rw [span_append, span_rev] at hat
          simp only [span] at hat
          rw [span_rev, span_append, span_rev] at e
          simp only [span] at e
          exact h3.1 _ _ rfl ⟨rfl, rfl, by rw [Nat.zero_add, span_rev]; exact odd_mod (by simpa using hat) (by simpa using e)⟩
    · rw [show top - o = 0 by omega]
      show a.reverse.reverse ++ _ = _
      rw [List.reverse_reverse]
      rfl
  | succ n ih =>
    intro o ho
    obtain ⟨m, hm⟩ : ∃ m, top - o = m + 1 := ⟨top - o - 1, by omega⟩
    rw [hm, pieces_cons, List.cons_append, melt_step (step_right (by rw [span_rev]; exact mod_even (pow_dvd_mod (show o + 1 ≤ k by omega) hat)))]
    rw [show m = top - (o + 1) by omega]
    exact ih (o + 1) (by omega)
/-- tiles that are long enough part at half -/
theorem half_split : ∀ (l : List Tl) (p k s : Nat), s % 2 ^ 0 = 0 → (p + s) % 1 = 0 → Lies (p + s) l → p % 2 ^ k = 0 → s ≤ 2 ^ k → 2 ^ k ≤ s + span l → (∀ t ∈ l, t.1 ≤ k) → ∃ a b, l = a ++ b ∧ s + span a = 2 ^ k
  | [], p, k, s, _, _, _, _, h1, h2, _ => ⟨[], [], rfl, by simp only [span] at h2 ⊢; omega⟩
  | t :: l, p, k, s, z1, z2, hl, hp, h1, h2, hle => by
    by_cases e : s = 2 ^ k
    · exact ⟨[], t :: l, rfl, by simp only [span]; omega⟩
    · have htk := hle t List.mem_cons_self
      have ht := hl.1
      have hs : s % 2 ^ t.1 = 0 := by
        have h3 := pow_dvd_mod htk hp
        rw [Nat.add_mod, h3, Nat.zero_add, Nat.mod_mod] at ht
        exact ht
      have hk : 2 ^ k % 2 ^ t.1 = 0 := Nat.mod_eq_zero_of_dvd (Nat.pow_dvd_pow 2 htk)
      have hsum : s + 2 ^ t.1 ≤ 2 ^ k := by
        obtain ⟨c, hc⟩ := Nat.dvd_of_mod_eq_zero hs
        obtain ⟨d, hd⟩ := Nat.dvd_of_mod_eq_zero hk
        rw [hd] at h1 e ⊢
        subst hc
        have : c < d := by
          by_cases q : c < d
          · exact q
          · exfalso
            have := Nat.mul_le_mul_left (2 ^ t.1) (show d ≤ c by omega)
            omega
        have := Nat.mul_le_mul_left (2 ^ t.1) (show c + 1 ≤ d by omega)
        rw [Nat.mul_add, Nat.mul_one] at this
        exact this
      obtain ⟨a, b, e1, e2⟩ := half_split l p k (s + 2 ^ t.1) (Nat.mod_one _) (Nat.mod_one _) (by rw [show p + (s + 2 ^ t.1) = p + s + 2 ^ t.1 by omega]; exact hl.2) hp hsum (by simp only [span] at h2; omega) (fun u hu => hle u (List.mem_cons_of_mem _ hu))
      exact ⟨t :: a, b, by rw [e1]; rfl, by simp only [span]; omega⟩
theorem span_pos {t : Tl} {l : List Tl} (h : t ∈ l) : 2 ^ t.1 ≤ span l := by
  obtain ⟨a, b, rfl⟩ := List.append_of_mem h
  rw [span_append]
  simp only [span]
  omega
/-- where all is free there is one block -/
theorem all_free : ∀ (k p : Nat) (l : List Tl), span l = 2 ^ k → p % 2 ^ k = 0 → Lies p l → Apart p l → (∀ t ∈ l, t.2 = true) → l = [(k, true)]
  | 0, p, l, hs, _, _, _, hf => by
    cases l with
    | nil => simp [span] at hs
    | cons t l =>
      have := two_pos t.1
      simp only [span] at hs
      have h0 : 2 ^ t.1 = 1 := by omega
      have h1 : t.1 = 0 := by
        cases h : t.1 with
        | zero => rfl
        | succ n => rw [h, Nat.pow_succ] at h0; have := two_pos n; omega
      cases l with
      | nil =>
        have := hf t List.mem_cons_self
        obtain ⟨x, y⟩ := t
        simp only at h1 this
        rw [h1, this]
      | cons u l =>
        have := two_pos u.1
        simp only [span] at hs
        omega
  | k + 1, p, l, hs, hp, hl, ha, hf => by
    have p2 : 2 ^ (k + 1) = 2 ^ k + 2 ^ k := by rw [Nat.pow_succ]; omega
    have hk := two_pos k
    by_cases hbig : ∃ t ∈ l, k < t.1
    · obtain ⟨t, ht, hkt⟩ := hbig
      obtain ⟨a, b, rfl⟩ := List.append_of_mem ht
      rw [span_append] at hs
      simp only [span] at hs
      have h1 : 2 ^ (k + 1) ≤ 2 ^ t.1 := Nat.pow_le_pow_right (by decide) (by omega)
      have z : ∀ l : List Tl, span l = 0 → l = [] := fun l hl => by
        cases l with
        | nil => rfl
        | cons t l => have := two_pos t.1; simp only [span] at hl; omega
      have e1 := z a (by omega)
      have e2 := z b (by omega)
      subst e1 e2
      have h2 : t.1 = k + 1 := by
        have h3 : 2 ^ t.1 = 2 ^ (k + 1) := by simp only [span] at hs; omega
        have h4 : t.1 ≤ k + 1 := (Nat.pow_le_pow_iff_right (by decide)).1 (Nat.le_of_eq h3)
        omega
      have := hf t (by simp)
      obtain ⟨x, y⟩ := t
      simp only at h2 this
      rw [h2, this]
      rfl
    · exfalso
      have hle : ∀ t ∈ l, t.1 ≤ k := fun t ht => by
        by_cases q : k < t.1
        · exact absurd ⟨t, ht, q⟩ hbig
        · omega
      have hp2 : p % 2 ^ k = 0 := pow_dvd_mod (by omega) hp
      obtain ⟨a, b, rfl, hsa⟩ := half_split l p k 0 (Nat.mod_one _) (Nat.mod_one _) hl hp2 (by omega) (by omega) hle
      rw [Nat.zero_add] at hsa
      rw [span_append] at hs
      obtain ⟨l1, l2⟩ := lies_append.1 hl
      obtain ⟨a1, a2⟩ := apart_append ha
      have e1 := all_free k p a hsa hp2 l1 a1 (fun t ht => hf t (List.mem_append_left _ ht))
      have e2 := all_free k (p + span a) b (by omega) (by rw [hsa, Nat.add_mod_right]; exact hp2) l2 a2 (fun t ht => hf t (List.mem_append_right _ ht))
      subst e1 e2
      exact ha.1 _ _ rfl ⟨rfl, rfl, hp⟩
theorem good_free {top : Nat} {l : List Tl} (h : Good top l) (hf : ∀ t ∈ l, t.2 = true) : l = [(top, true)] := all_free top 0 l h.all (Nat.zero_mod _) h.lies h.apart hf
theorem good_start (top : Nat) : Good top [(top, true)] := ⟨by simp [span], ⟨Nat.zero_mod _, trivial⟩, ⟨fun _ _ e => (by cases e), trivial⟩, fun t ht => by rw [List.mem_singleton.1 ht]; exact Nat.le_refl _⟩
end Go.Proofs.YtflkoabgkgegjaaGreatDoor
/- The plain law between tiles and the bits of the free blocks. No condition. -/
namespace Go.Proofs.YtflkoabgkgegjaaGreatDoor

def setF (F : Nat → Nat → Bool) (k i : Nat) (on : Bool) : Nat → Nat → Bool := fun j x => if j = k ∧ x = i then on else F j x
def updU (U : Int → Option Nat) (p : Int) (v : Option Nat) : Int → Option Nat := fun x => if x = p then v else U x
/-- the bits are those of the free tiles -/
def FRel (F : Nat → Nat → Bool) (top : Nat) (l : List Tl) : Prop := ∀ j x, j ≤ top → x < 2 ^ (top - j) → (F j x = true ↔ (x * 2 ^ j, j) ∈ blks true 0 l)
def URel (U : Int → Option Nat) (l : List Tl) : Prop := ∀ x k, U x = some k ↔ ∃ p : Nat, x = 1024 * (p : Int) ∧ (p, k) ∈ blks false 0 l
/-- the bits are those of the free tiles about a block of order k that is neither free nor used -/
def HRel (F : Nat → Nat → Bool) (top : Nat) (ra : List Tl) (k : Nat) (b : List Tl) : Prop := ∀ j x, j ≤ top → x < 2 ^ (top - j) → (F j x = true ↔ (x * 2 ^ j, j) ∈ blks true 0 ra.reverse ∨ (x * 2 ^ j, j) ∈ blks true (span ra + 2 ^ k) b)
theorem blks_used {g : Bool} (f : Bool) (a b : List Tl) (k : Nat) (h : f ≠ g) : blks f 0 (a ++ (k, g) :: b) = blks f 0 a ++ blks f (span a + 2 ^ k) b := by
  rw [blks_append, Nat.zero_add]
  simp only [blks]
  rw [if_neg (fun e => h e.symm)]
theorem blks_same (f : Bool) (a b : List Tl) (k : Nat) : blks f 0 (a ++ (k, f) :: b) = blks f 0 a ++ (span a, k) :: blks f (span a + 2 ^ k) b := by
  rw [blks_append, Nat.zero_add]
  simp only [blks, if_true]
theorem FRel.hole {F : Nat → Nat → Bool} {top k : Nat} {a b : List Tl} (h : FRel F top (a ++ (k, false) :: b)) : HRel F top a.reverse k b := fun j x hj hx => by
  rw [h j x hj hx, blks_used true a b k (by decide), List.mem_append, List.reverse_reverse, span_rev]
/-- a block of a list of tiles, by its end -/
theorem blks_last {f : Bool} {p k : Nat} {l : List Tl} (h : (p, k) ∈ blks f 0 l) (he : p + 2 ^ k = span l) : ∃ a, l = a ++ [(k, f)] ∧ span a = p := by
  obtain ⟨a, b, rfl, hp⟩ := blks_mem h
  simp only [Nat.zero_add] at hp
  rw [span_append] at he
  simp only [span] at he
  cases b with
  | nil => exact ⟨a, rfl, hp.symm⟩
  | cons t b =>
    have := two_pos t.1
    simp only [span] at he
    omega
theorem blks_first {f : Bool} {p k : Nat} {l : List Tl} (h : (p, k) ∈ blks f p l) : ∃ b, l = (k, f) :: b := by
  obtain ⟨a, b, rfl, hp⟩ := blks_mem h
  cases a with
  | nil => exact ⟨b, rfl⟩
  | cons t a =>
    have := two_pos t.1
    simp only [span] at hp
    omega
theorem xor_even (i : Nat) (h : i % 2 = 0) : i ^^^ 1 = i + 1 := by
  apply Nat.eq_of_testBit_eq
  intro j
  rw [Nat.testBit_xor]
  cases j with
  | zero => simp [Nat.testBit_zero, h]; omega
  | succ j =>
    rw [Nat.testBit_succ, Nat.testBit_succ, Nat.testBit_succ]
    rw [show (i + 1) / 2 = i / 2 by omega]
    simp
theorem xor_odd (i : Nat) (h : i % 2 = 1) : i ^^^ 1 = i - 1 := by
  apply Nat.eq_of_testBit_eq
  intro j
  rw [Nat.testBit_xor]
  cases j with
  | zero => simp [Nat.testBit_zero, h]; omega
  | succ j =>
    rw [Nat.testBit_succ, Nat.testBit_succ, Nat.testBit_succ]
    rw [show (i - 1) / 2 = i / 2 by omega]
    simp
theorem mul_div_self' {s k : Nat} (h : s % 2 ^ k = 0) : s / 2 ^ k * 2 ^ k = s := Nat.div_mul_cancel (Nat.dvd_of_mod_eq_zero h)
theorem lt_of_mul {x j top : Nat} (hj : j ≤ top) : x < 2 ^ (top - j) ↔ x * 2 ^ j < 2 ^ top := by
  have e : 2 ^ top = 2 ^ (top - j) * 2 ^ j := by rw [← Nat.pow_add]; congr 1; omega
  rw [e]
  exact (Nat.mul_lt_mul_right (two_pos j)).symm
/-- the place of the hole among blocks of its order -/
theorem Mid.place {top k : Nat} {ra b : List Tl} (h : Mid top ra k b) : span ra / 2 ^ k * 2 ^ k = span ra ∧ span ra / 2 ^ k < 2 ^ (top - k) := by
  have h1 := mul_div_self' h.at_
  refine ⟨h1, (lt_of_mul h.le).2 ?_⟩
  rw [h1]
  have := h.all
  have := two_pos k
  omega
theorem Mid.buddy_lt {top k : Nat} {ra b : List Tl} (h : Mid top ra k b) (hk : k < top) : (span ra / 2 ^ k) ^^^ 1 < 2 ^ (top - k) := by
  have h1 := h.place.2
  obtain ⟨m, hm⟩ : ∃ m, top - k = m + 1 := ⟨top - k - 1, by omega⟩
  rw [hm, Nat.pow_succ] at h1 ⊢
  generalize span ra / 2 ^ k = i at *
  by_cases e : i % 2 = 0
  · rw [xor_even _ e]; omega
  · rw [xor_odd _ (by omega)]; omega
theorem HRel.buddy {F : Nat → Nat → Bool} {top k : Nat} {ra b : List Tl} (h : HRel F top ra k b) (hM : Mid top ra k b) (hk : k < top) : F k ((span ra / 2 ^ k) ^^^ 1) = (step ra k b).isSome := by
  have hp := hM.place.1
  have hl := hM.buddy_lt hk
  have key := h k _ (by omega) hl
  have hkp := two_pos k
  by_cases e : span ra / 2 ^ k % 2 = 0
  · rw [xor_even _ e] at key ⊢
    rw [Nat.add_mul, hp, Nat.one_mul] at key
    cases hs : step ra k b with
    | some x =>
      obtain ⟨ra', b'⟩ := x
      rcases step_some hs with ⟨_, rfl, rfl⟩ | ⟨e2, _, _⟩
      · exact key.2 (.inr (by simp [blks]))
      · omega
    | none =>
      simp only [Option.isSome_none]
      refine Bool.eq_false_iff.2 fun hc => ?_
      rcases key.1 hc with hm | hm
      · have := blks_lt hm
        rw [span_rev] at this
        simp only at this
        omega
      · obtain ⟨b', hb⟩ := blks_first hm
        exact step_none_right hs e b' hb
  · have e1 : span ra / 2 ^ k % 2 = 1 := by omega
    rw [xor_odd _ e1] at key ⊢
    have hge : 2 ^ k ≤ span ra := by
      by_cases q : 2 ^ k ≤ span ra
      · exact q
      · rw [Nat.div_eq_of_lt (by omega)] at e1; omega
    rw [Nat.sub_mul, hp, Nat.one_mul] at key
    cases hs : step ra k b with
    | some x =>
      obtain ⟨ra', b'⟩ := x
      rcases step_some hs with ⟨e2, _, _⟩ | ⟨_, rfl, rfl⟩
      · omega
      · refine key.2 (.inl ?_)
        rw [List.reverse_cons]
        have := blks_at true 0 ra'.reverse [] k
        rw [Nat.zero_add, span_rev] at this
        simp only [span, Nat.add_sub_cancel_left]
        exact this
    | none =>
      simp only [Option.isSome_none]
      refine Bool.eq_false_iff.2 fun hc => ?_
      rcases key.1 hc with hm | hm
      · obtain ⟨a, ha, _⟩ := blks_last hm (by rw [span_rev]; omega)
        refine step_none_left hs e1 a.reverse ?_
        have := congrArg List.reverse ha
        simpa using this
      · have := (blks_lt hm).1
        simp only at this
        omega
/-- addresses of one order are one just if the places are -/
theorem place_inj {x y k : Nat} (h : x * 2 ^ k = y * 2 ^ k) : x = y := Nat.eq_of_mul_eq_mul_right (two_pos k) h
theorem HRel.step_ {F : Nat → Nat → Bool} {top k : Nat} {ra b ra' b' : List Tl} (h : HRel F top ra k b) (hM : Mid top ra k b) (hs : step ra k b = some (ra', b')) :
    HRel (setF F k ((span ra / 2 ^ k) ^^^ 1) false) top ra' (k + 1) b' ∧ span ra' / 2 ^ (k + 1) = span ra / 2 ^ k / 2 := by
  have hp := hM.place.1
  have hkp := two_pos k
  have p2 : 2 ^ (k + 1) = 2 ^ k + 2 ^ k := by rw [Nat.pow_succ]; omega
  rcases step_some hs with ⟨e, rfl, rfl⟩ | ⟨e, rfl, rfl⟩
  · refine ⟨fun j x hj hx => ?_, by rw [Nat.pow_succ, Nat.div_div_eq_div_mul]⟩
    have key := h j x hj hx
    unfold setF
    have e2 : span ra' + 2 ^ (k + 1) = span ra' + 2 ^ k + 2 ^ k := by omega
    rw [e2]
    by_cases q : j = k ∧ x = span ra' / 2 ^ k ^^^ 1
    · rw [if_pos q]
      obtain ⟨rfl, rfl⟩ := q
      refine ⟨fun hc => (by cases hc), fun hc => ?_⟩
      rw [xor_even _ e, Nat.add_mul, hp, Nat.one_mul] at hc
      rcases hc with hc | hc
      · have := blks_lt hc
        rw [span_rev] at this
        simp only at this
        omega
      · have := (blks_lt hc).1
        simp only at this
        omega
    · rw [if_neg q, key]
      simp only [blks, if_true, List.mem_cons]
      constructor
      · rintro (hc | hc | hc)
        · exact .inl hc
        · injection hc with h1 h2
          exfalso
          subst h2
          refine q ⟨rfl, place_inj (k := j) ?_⟩
          rw [h1, xor_even _ e, Nat.add_mul, hp, Nat.one_mul]
        · exact .inr hc
      · rintro (hc | hc)
        · exact .inl hc
        · exact .inr (.inr hc)
  · have hsp : span ((k, true) :: ra') = 2 ^ k + span ra' := rfl
    have hd : span ra' / 2 ^ (k + 1) = span ((k, true) :: ra') / 2 ^ k / 2 := by
      have h0 : span ra' % 2 ^ (k + 1) = 0 := odd_mod (by have := hM.at_; rw [hsp, Nat.add_comm] at this; exact this) (by rw [hsp, Nat.add_comm] at e; exact e)
      rw [hsp, Nat.add_comm (2 ^ k) (span ra'), Nat.add_div_right _ hkp, Nat.pow_succ, ← Nat.div_div_eq_div_mul]
      have := mod_even h0
      omega
    refine ⟨fun j x hj hx => ?_, hd⟩
    have key := h j x hj hx
    unfold setF
    have hpl : (span ((k, true) :: ra') / 2 ^ k ^^^ 1) * 2 ^ k = span ra' := by
      rw [xor_odd _ e, Nat.sub_mul, hp, Nat.one_mul, hsp]
      omega
    have e2 : span ra' + 2 ^ (k + 1) = span ((k, true) :: ra') + 2 ^ k := by rw [hsp]; omega
    rw [e2]
    have hbl : blks true 0 ((k, true) :: ra').reverse = blks true 0 ra'.reverse ++ [(span ra', k)] := by
      rw [List.reverse_cons, blks_append, Nat.zero_add, span_rev]
      simp [blks]
    by_cases q : j = k ∧ x = span ((k, true) :: ra') / 2 ^ k ^^^ 1
    · rw [if_pos q]
      obtain ⟨rfl, rfl⟩ := q
      refine ⟨fun hc => (by cases hc), fun hc => ?_⟩
      rw [hpl] at hc
      rcases hc with hc | hc
      · have := blks_lt hc
        rw [span_rev] at this
        simp only at this
        omega
      · have := (blks_lt hc).1
        rw [hsp] at this
        simp only at this
        omega
    · rw [if_neg q, key, hbl, List.mem_append, List.mem_singleton]
      constructor
      · rintro ((hc | hc) | hc)
        · exact .inl hc
        · injection hc with h1 h2
          exfalso
          subst h2
          exact q ⟨rfl, place_inj (k := j) (by rw [h1, hpl])⟩
        · exact .inr hc
      · rintro (hc | hc)
        · exact .inl (.inl hc)
        · exact .inr hc
theorem HRel.stop {F : Nat → Nat → Bool} {top k : Nat} {ra b : List Tl} (h : HRel F top ra k b) (hM : Mid top ra k b) : FRel (setF F k (span ra / 2 ^ k) true) top (ra.reverse ++ (k, true) :: b) := fun j x hj hx => by
  have hp := hM.place.1
  have key := h j x hj hx
  unfold setF
  rw [blks_same, span_rev, List.mem_append, List.mem_cons]
  by_cases q : j = k ∧ x = span ra / 2 ^ k
  · rw [if_pos q]
    obtain ⟨rfl, rfl⟩ := q
    rw [hp]
    simp
  · rw [if_neg q, key]
    constructor
    · rintro (hc | hc)
      · exact .inl hc
      · exact .inr (.inr hc)
    · rintro (hc | hc | hc)
      · exact .inl hc
      · injection hc with h1 h2
        exfalso
        subst h2
        exact q ⟨rfl, place_inj (k := j) (by rw [h1, hp])⟩
      · exact .inr hc
/-! ## taking -/
/-- the bits after a block of order k at the place i was split down to the order o -/
def takeF (F : Nat → Nat → Bool) (o k i : Nat) : Nat → Nat → Bool := fun j x => if j = k ∧ x = i then false else if o ≤ j ∧ j < k ∧ x = i * 2 ^ (k - j) + 1 then true else F j x
theorem blks_pieces (o s : Nat) : ∀ n, blks true (s + 2 ^ o) (pieces o n) = (List.range n).map fun j => (s + 2 ^ (o + j), o + j)
  | 0 => rfl
  | n + 1 => by
    have := blks_pieces o s n
    show blks true (s + 2 ^ o) (pieces o n ++ [(o + n, true)]) = _
    rw [blks_append, this, List.range_succ, List.map_append]
    have e := span_pieces o n
    simp only [blks, if_true, List.map_cons, List.map_nil]
    rw [show s + 2 ^ o + span (pieces o n) = s + 2 ^ (o + n) by omega]
theorem take_free {o k : Nat} (a b : List Tl) (ho : o ≤ k) : blks true 0 (takeT o k a b) = blks true 0 a ++ ((List.range (k - o)).map fun j => (span a + 2 ^ (o + j), o + j)) ++ blks true (span a + 2 ^ k) b := by
  unfold takeT
  rw [blks_used true a _ o (by decide), blks_append, blks_pieces, List.append_assoc]
  congr 2
  have e := span_pieces o (k - o)
  rw [show o + (k - o) = k by omega] at e
  rw [show span a + 2 ^ o + span (pieces o (k - o)) = span a + 2 ^ k by omega]
theorem FRel.take {F : Nat → Nat → Bool} {top o k i : Nat} {a b : List Tl} (h : FRel F top (a ++ (k, true) :: b)) (ho : o ≤ k) (hk : k ≤ top) (hi : i * 2 ^ k = span a) : FRel (takeF F o k i) top (takeT o k a b) := fun j x hj hx => by
  have key := h j x hj hx
  rw [blks_same, List.mem_append, List.mem_cons] at key
  rw [take_free a b ho, List.mem_append, List.mem_append, List.mem_map]
  unfold takeF
  have hkp := two_pos k
  by_cases q : j = k ∧ x = i
  · rw [if_pos q]
    obtain ⟨rfl, rfl⟩ := q
    refine ⟨fun hc => (by cases hc), fun hc => ?_⟩
    rw [hi] at hc
    rcases hc with (hc | ⟨y, hy, hc⟩) | hc
    · have := (blks_lt hc).2
      simp only at this
      omega
    · injection hc with h1 h2
      have := two_pos (o + y)
      omega
    · have := (blks_lt hc).1
      simp only at this
      omega
  · rw [if_neg q]
    have e3 : ∀ j, j ≤ k → (i * 2 ^ (k - j) + 1) * 2 ^ j = span a + 2 ^ j := fun j hj => by
      rw [Nat.add_mul, Nat.mul_assoc, ← Nat.pow_add, show k - j + j = k by omega, hi, Nat.one_mul]
    by_cases q2 : o ≤ j ∧ j < k ∧ x = i * 2 ^ (k - j) + 1
    · rw [if_pos q2]
      obtain ⟨q3, q4, rfl⟩ := q2
      refine ⟨fun _ => .inl (.inr ⟨j - o, List.mem_range.2 (by omega), ?_⟩), fun _ => rfl⟩
      rw [e3 j (by omega), show o + (j - o) = j by omega]
    · rw [if_neg q2, key]
      constructor
      · rintro (hc | hc | hc)
        · exact .inl (.inl hc)
        · injection hc with h1 h2
          subst h2
          exact absurd ⟨rfl, place_inj (k := j) (by rw [h1, hi])⟩ q
        · exact .inr hc
      · rintro ((hc | ⟨y, hy, hc⟩) | hc)
        · exact .inl hc
        · exfalso
          have hy := List.mem_range.1 hy
          injection hc with h1 h2
          refine q2 ⟨by omega, by omega, place_inj (k := j) ?_⟩
          rw [e3 j (by omega), ← h1, h2]
        · exact .inr (.inr hc)
theorem URel.take {U : Int → Option Nat} {o k : Nat} {a b : List Tl} (h : URel U (a ++ (k, true) :: b)) (ho : o ≤ k) : URel (updU U (1024 * (span a : Nat)) (some o)) (takeT o k a b) := fun x j => by
  have key := h x j
  rw [blks_used false a b k (by decide)] at key
  rw [take_used a b ho]
  unfold updU
  have hkp := two_pos k
  simp only [List.mem_append, List.mem_cons] at key ⊢
  by_cases q : x = 1024 * ((span a : Nat) : Int)
  · rw [if_pos q]
    subst q
    constructor
    · intro hj
      injection hj with hj
      subst hj
      exact ⟨span a, rfl, .inr (.inl rfl)⟩
    · rintro ⟨p, hp, hc | hc | hc⟩
      · have := (blks_lt hc).2
        have := two_pos j
        simp only at *
        omega
      · injection hc with h1 h2
        rw [h2]
      · have := (blks_lt hc).1
        simp only at this
        omega
  · rw [if_neg q, key]
    constructor
    · rintro ⟨p, hp, hc | hc⟩
      · exact ⟨p, hp, .inl hc⟩
      · exact ⟨p, hp, .inr (.inr hc)⟩
    · rintro ⟨p, hp, hc | hc | hc⟩
      · exact ⟨p, hp, .inl hc⟩
      · injection hc with h1 h2
        subst h1
        exact absurd hp q
      · exact ⟨p, hp, .inr hc⟩
theorem URel.give {U : Int → Option Nat} {k : Nat} {a b : List Tl} {x0 : Int} (h : URel U (a ++ (k, false) :: b)) (h0 : x0 = 1024 * ((span a : Nat) : Int)) (n : Nat) : URel (updU U x0 none) (melt n a.reverse k b) := fun x j => by
  subst h0
  have key := h x j
  rw [blks_same] at key
  rw [melt_used, List.reverse_reverse, span_rev]
  unfold updU
  have hkp := two_pos k
  simp only [List.mem_append, List.mem_cons] at key ⊢
  by_cases q : x = 1024 * ((span a : Nat) : Int)
  · rw [if_pos q]
    subst q
    refine ⟨fun hc => (by cases hc), ?_⟩
    rintro ⟨p, hp, hc | hc⟩
    · have := (blks_lt hc).2
      have := two_pos j
      simp only at *
      omega
    · have := (blks_lt hc).1
      simp only at this
      omega
  · rw [if_neg q, key]
    constructor
    · rintro ⟨p, hp, hc | hc | hc⟩
      · exact ⟨p, hp, .inl hc⟩
      · injection hc with h1 h2
        subst h1
        exact absurd hp q
      · exact ⟨p, hp, .inr hc⟩
    · rintro ⟨p, hp, hc | hc⟩
      · exact ⟨p, hp, .inl hc⟩
      · exact ⟨p, hp, .inr (.inr hc)⟩
end Go.Proofs.YtflkoabgkgegjaaGreatDoor
