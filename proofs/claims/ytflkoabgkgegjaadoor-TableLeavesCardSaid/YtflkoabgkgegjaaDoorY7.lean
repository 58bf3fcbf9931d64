/- The plain law between tiles and the bits of the free blocks. No condition. -/
import Derived.Test.YtflkoabgkgegjaaDoorY6
/- The plain law between tiles and the bits of the free blocks. No condition. -/
namespace Go.Proofs.YtflkoabgkgegjaaDoor

def setF (F : Nat → Nat → Bool) (k i : Nat) (on : Bool) : Nat → Nat → Bool := fun j x => if j = k ∧ x = i then on else F j x
def updU (U : Int → Option Nat) (p : Int) (v : Option Nat) : Int → Option Nat := fun x => if x = p then v else U x
/-- the bits are those of the free tiles -/
def FRel (F : Nat → Nat → Bool) (top : Nat) (l : List Tl) : Prop := ∀ j x, j ≤ top → x < 2 ^ (top - j) → (F j x = true ↔ (x * 2 ^ j, j) ∈ blks true 0 l)
def URel (U : Int → Option Nat) (l : List Tl) : Prop := ∀ x k, U x = some k ↔ ∃ p : Nat, x = 1024 * (p : Int) ∧ (p, k) ∈ blks false 0 l
/-- the bits are those of the free tiles about a block of order k that is neither free nor used -/
def HRel (F : Nat → Nat → Bool) (top : Nat) (ra : List Tl) (k : Nat) (b : List Tl) : Prop := ∀ j x, j ≤ top → x < 2 ^ (top - j) → (F j x = true ↔ (x * 2 ^ j, j) ∈ blks true 0 ra.reverse ∨ (x * 2 ^ j, j) ∈ blks true (span ra + 2 ^ k) b)
theorem blks_used {g : Bool} (f : Bool) (a b : List Tl) (k : Nat) (h : f ≠ g) : blks f 0 (a ++ (k, g) :: b) = blks f 0 a ++ blks f (span a + 2 ^ k) b := by
  rw [blks_append, Nat.zero_add]
  simp only [blks]
  rw [if_neg (fun e => h e.symm)]
theorem blks_same (f : Bool) (a b : List Tl) (k : Nat) : blks f 0 (a ++ (k, f) :: b) = blks f 0 a ++ (span a, k) :: blks f (span a + 2 ^ k) b := by
  rw [blks_append, Nat.zero_add]
  simp only [blks, if_true]
theorem FRel.hole {F : Nat → Nat → Bool} {top k : Nat} {a b : List Tl} (h : FRel F top (a ++ (k, false) :: b)) : HRel F top a.reverse k b := fun j x hj hx => by
  rw [h j x hj hx, blks_used true a b k (by decide), List.mem_append, List.reverse_reverse, span_rev]
/-- a block of a list of tiles, by its end -/
theorem blks_last {f : Bool} {p k : Nat} {l : List Tl} (h : (p, k) ∈ blks f 0 l) (he : p + 2 ^ k = span l) : ∃ a, l = a ++ [(k, f)] ∧ span a = p := by
  obtain ⟨a, b, rfl, hp⟩ := blks_mem h
  simp only [Nat.zero_add] at hp
  rw [span_append] at he
  simp only [span] at he
  cases b with
  | nil => exact ⟨a, rfl, hp.symm⟩
  | cons t b =>
    have := two_pos t.1
    simp only [span] at he
    omega
theorem blks_first {f : Bool} {p k : Nat} {l : List Tl} (h : (p, k) ∈ blks f p l) : ∃ b, l = (k, f) :: b := by
  obtain ⟨a, b, rfl, hp⟩ := blks_mem h
  cases a with
  | nil => exact ⟨b, rfl⟩
  | cons t a =>
    have := two_pos t.1
    simp only [span] at hp
    omega
theorem xor_even (i : Nat) (h : i % 2 = 0) : i ^^^ 1 = i + 1 := by
  apply Nat.eq_of_testBit_eq
  intro j
  rw [Nat.testBit_xor]
  cases j with
  | zero => simp [Nat.testBit_zero, h]; omega
  | succ j =>
    rw [Nat.testBit_succ, Nat.testBit_succ, Nat.testBit_succ]
    rw [show (i + 1) / 2 = i / 2 by omega]
    simp
theorem xor_odd (i : Nat) (h : i % 2 = 1) : i ^^^ 1 = i - 1 := by
  apply Nat.eq_of_testBit_eq
  intro j
  rw [Nat.testBit_xor]
  cases j with
  | zero => simp [Nat.testBit_zero, h]; omega
  | succ j =>
    rw [Nat.testBit_succ, Nat.testBit_succ, Nat.testBit_succ]
    rw [show (i - 1) / 2 = i / 2 by omega]
    simp
theorem mul_div_self' {s k : Nat} (h : s % 2 ^ k = 0) : s / 2 ^ k * 2 ^ k = s := Nat.div_mul_cancel (Nat.dvd_of_mod_eq_zero h)
theorem lt_of_mul {x j top : Nat} (hj : j ≤ top) : x < 2 ^ (top - j) ↔ x * 2 ^ j < 2 ^ top := by
  have e : 2 ^ top = 2 ^ (top - j) * 2 ^ j := by rw [← Nat.pow_add]; congr 1; omega
  rw [e]
  exact (Nat.mul_lt_mul_right (two_pos j)).symm
/-- the place of the hole among blocks of its order -/
theorem Mid.place {top k : Nat} {ra b : List Tl} (h : Mid top ra k b) : span ra / 2 ^ k * 2 ^ k = span ra ∧ span ra / 2 ^ k < 2 ^ (top - k) := by
  have h1 := mul_div_self' h.at_
  refine ⟨h1, (lt_of_mul h.le).2 ?_⟩
  rw [h1]
  have := h.all
  have := two_pos k
  omega
theorem Mid.buddy_lt {top k : Nat} {ra b : List Tl} (h : Mid top ra k b) (hk : k < top) : (span ra / 2 ^ k) ^^^ 1 < 2 ^ (top - k) := by
  have h1 := h.place.2
  obtain ⟨m, hm⟩ : ∃ m, top - k = m + 1 := ⟨top - k - 1, by omega⟩
  rw [hm, Nat.pow_succ] at h1 ⊢
  generalize span ra / 2 ^ k = i at *
  by_cases e : i % 2 = 0
  · rw [xor_even _ e]; omega
  · rw [xor_odd _ (by omega)]; omega
theorem HRel.buddy {F : Nat → Nat → Bool} {top k : Nat} {ra b : List Tl} (h : HRel F top ra k b) (hM : Mid top ra k b) (hk : k < top) : F k ((span ra / 2 ^ k) ^^^ 1) = (step ra k b).isSome := by
  have hp := hM.place.1
  have hl := hM.buddy_lt hk
  have key := h k _ (by omega) hl
  have hkp := two_pos k
  by_cases e : span ra / 2 ^ k % 2 = 0
  · rw [xor_even _ e] at key ⊢
    rw [Nat.add_mul, hp, Nat.one_mul] at key
    cases hs : step ra k b with
    | some x =>
      obtain ⟨ra', b'⟩ := x
      rcases step_some hs with ⟨_, rfl, rfl⟩ | ⟨e2, _, _⟩
      · exact key.2 (.inr (by simp [blks]))
      · omega
    | none =>
      simp only [Option.isSome_none]
      refine Bool.eq_false_iff.2 fun hc => ?_
      rcases key.1 hc with hm | hm
      · have := blks_lt hm
        rw [span_rev] at this
        simp only at this
        omega
      · obtain ⟨b', hb⟩ := blks_first hm
        exact step_none_right hs e b' hb
  · have e1 : span ra / 2 ^ k % 2 = 1 := by omega
    rw [xor_odd _ e1] at key ⊢
    have hge : 2 ^ k ≤ span ra := by
      by_cases q : 2 ^ k ≤ span ra
      · exact q
      · rw [Nat.div_eq_of_lt (by omega)] at e1; omega
    rw [Nat.sub_mul, hp, Nat.one_mul] at key
    cases hs : step ra k b with
    | some x =>
      obtain ⟨ra', b'⟩ := x
      rcases step_some hs with ⟨e2, _, _⟩ | ⟨_, rfl, rfl⟩
      · omega
      · refine key.2 (.inl ?_)
        rw [List.reverse_cons]
        have := blks_at true 0 ra'.reverse [] k
        rw [Nat.zero_add, span_rev] at this
        simp only [span, Nat.add_sub_cancel_left]
        exact this
    | none =>
      simp only [Option.isSome_none]
      refine Bool.eq_false_iff.2 fun hc => ?_
      rcases key.1 hc with hm | hm
      · obtain ⟨a, ha, _⟩ := blks_last hm (by rw [span_rev]; omega)
        refine step_none_left hs e1 a.reverse ?_
        have := congrArg List.reverse ha
        simpa using this
      · have := (blks_lt hm).1
        simp only at this
        omega
/-- addresses of one order are one just if the places are -/
theorem place_inj {x y k : Nat} (h : x * 2 ^ k = y * 2 ^ k) : x = y := Nat.eq_of_mul_eq_mul_right (two_pos k) h
theorem HRel.step_ {F : Nat → Nat → Bool} {top k : Nat} {ra b ra' b' : List Tl} (h : HRel F top ra k b) (hM : Mid top ra k b) (hs : step ra k b = some (ra', b')) :
    HRel (setF F k ((span ra / 2 ^ k) ^^^ 1) false) top ra' (k + 1) b' ∧ span ra' / 2 ^ (k + 1) = span ra / 2 ^ k / 2 := by
  have hp := hM.place.1
  have hkp := two_pos k
  have p2 : 2 ^ (k + 1) = 2 ^ k + 2 ^ k := by rw [Nat.pow_succ]; omega
  rcases step_some hs with ⟨e, rfl, rfl⟩ | ⟨e, rfl, rfl⟩
  · refine ⟨fun j x hj hx => ?_, by rw [Nat.pow_succ, Nat.div_div_eq_div_mul]⟩
    have key := h j x hj hx
    unfold setF
    have e2 : span ra' + 2 ^ (k + 1) = span ra' + 2 ^ k + 2 ^ k := by omega
    rw [e2]
    by_cases q : j = k ∧ x = span ra' / 2 ^ k ^^^ 1
    · rw [if_pos q]
      obtain ⟨rfl, rfl⟩ := q
      refine ⟨fun hc => (by cases hc), fun hc => ?_⟩
      rw [xor_even _ e, Nat.add_mul, hp, Nat.one_mul] at hc
      rcases hc with hc | hc
      · have := blks_lt hc
        rw [span_rev] at this
        simp only at this
        omega
      · have := (blks_lt hc).1
        simp only at this
        omega
    · rw [if_neg q, key]
      simp only [blks, if_true, List.mem_cons]
      constructor
      · rintro (hc | hc | hc)
        · exact .inl hc
        · injection hc with h1 h2
          exfalso
          subst h2
          refine q ⟨rfl, place_inj (k := j) ?_⟩
          rw [h1, xor_even _ e, Nat.add_mul, hp, Nat.one_mul]
        · exact .inr hc
      · rintro (hc | hc)
        · exact .inl hc
        · exact .inr (.inr hc)
  · have hsp : span ((k, true) :: ra') = 2 ^ k + span ra' := rfl
    have hd : span ra' / 2 ^ (k + 1) = span ((k, true) :: ra') / 2 ^ k / 2 := by
      have h0 : span ra' % 2 ^ (k + 1) = 0 := odd_mod (by have := hM.at_; rw [hsp, Nat.add_comm] at this; exact this) (by rw [hsp, Nat.add_comm] at e; exact e)
      rw [hsp, Nat.add_comm (2 ^ k) (span ra'), Nat.add_div_right _ hkp, Nat.pow_succ, ← Nat.div_div_eq_div_mul]
      have := mod_even h0
      omega
    refine ⟨fun j x hj hx => ?_, hd⟩
    have key := h j x hj hx
    unfold setF
    have hpl : (span ((k, true) :: ra') / 2 ^ k ^^^ 1) * 2 ^ k = span ra' := by
      rw [xor_odd _ e, Nat.sub_mul, hp, Nat.one_mul, hsp]
      omega
    have e2 : span ra' + 2 ^ (k + 1) = span ((k, true) :: ra') + 2 ^ k := by rw [hsp]; omega
    rw [e2]
    have hbl : blks true 0 ((k, true) :: ra').reverse = blks true 0 ra'.reverse ++ [(span ra', k)] := by
      rw [List.reverse_cons, blks_append, Nat.zero_add, span_rev]
      simp [blks]
    by_cases q : j = k ∧ x = span ((k, true) :: ra') / 2 ^ k ^^^ 1
    · rw [if_pos q]
      obtain ⟨rfl, rfl⟩ := q
      refine ⟨fun hc => (by cases hc), fun hc => ?_⟩
      rw [hpl] at hc
      rcases hc with hc | hc
      · have := blks_lt hc
        rw [span_rev] at this
        simp only at this
        omega
      · have := (blks_lt hc).1
        rw [hsp] at this
        simp only at this
        omega
    · rw [if_neg q, key, hbl, List.mem_append, List.mem_singleton]
      constructor
      · rintro ((hc | hc) | hc)
        · exact .inl hc
        · injection hc with h1 h2
          exfalso
          subst h2
          exact q ⟨rfl, place_inj (k := j) (by rw [h1, hpl])⟩
        · exact .inr hc
      · rintro (hc | hc)
        · exact .inl (.inl hc)
        · exact .inr hc
theorem HRel.stop {F : Nat → Nat → Bool} {top k : Nat} {ra b : List Tl} (h : HRel F top ra k b) (hM : Mid top ra k b) : FRel (setF F k (span ra / 2 ^ k) true) top (ra.reverse ++ (k, true) :: b) := fun j x hj hx => by
  have hp := hM.place.1
  have key := h j x hj hx
  unfold setF
  rw [blks_same, span_rev, List.mem_append, List.mem_cons]
  by_cases q : j = k ∧ x = span ra / 2 ^ k
  · rw [if_pos q]
    obtain ⟨rfl, rfl⟩ := q
    rw [hp]
    simp
  · rw [if_neg q, key]
    constructor
    · rintro (hc | hc)
      · exact .inl hc
      · exact .inr (.inr hc)
    · rintro (hc | hc | hc)
      · exact .inl hc
      · injection hc with h1 h2
        exfalso
        subst h2
        exact q ⟨rfl, place_inj (k := j) (by rw [h1, hp])⟩
      · exact .inr hc
/-! ## taking -/
/-- the bits after a block of order k at the place i was split down to the order o -/
def takeF (F : Nat → Nat → Bool) (o k i : Nat) : Nat → Nat → Bool := fun j x => if j = k ∧ x = i then false else if o ≤ j ∧ j < k ∧ x = i * 2 ^ (k - j) + 1 then true else F j x
theorem blks_pieces (o s : Nat) : ∀ n, blks true (s + 2 ^ o) (pieces o n) = (List.range n).map fun j => (s + 2 ^ (o + j), o + j)
  | 0 => rfl
  | n + 1 => by
    have := blks_pieces o s n
    show blks true (s + 2 ^ o) (pieces o n ++ [(o + n, true)]) = _
    rw [blks_append, this, List.range_succ, List.map_append]
    have e := span_pieces o n
    simp only [blks, if_true, List.map_cons, List.map_nil]
    rw [show s + 2 ^ o + span (pieces o n) = s + 2 ^ (o + n) by omega]
theorem take_free {o k : Nat} (a b : List Tl) (ho : o ≤ k) : blks true 0 (takeT o k a b) = blks true 0 a ++ ((List.range (k - o)).map fun j => (span a + 2 ^ (o + j), o + j)) ++ blks true (span a + 2 ^ k) b := by
  unfold takeT
  rw [blks_used true a _ o (by decide), blks_append, blks_pieces, List.append_assoc]
  congr 2
  have e := span_pieces o (k - o)
  rw [show o + (k - o) = k by omega] at e
  rw [show span a + 2 ^ o + span (pieces o (k - o)) = span a + 2 ^ k by omega]
theorem FRel.take {F : Nat → Nat → Bool} {top o k i : Nat} {a b : List Tl} (h : FRel F top (a ++ (k, true) :: b)) (ho : o ≤ k) (hk : k ≤ top) (hi : i * 2 ^ k = span a) : FRel (takeF F o k i) top (takeT o k a b) := fun j x hj hx => by
  have key := h j x hj hx
  rw [blks_same, List.mem_append, List.mem_cons] at key
  rw [take_free a b ho, List.mem_append, List.mem_append, List.mem_map]
  unfold takeF
  have hkp := two_pos k
  by_cases q : j = k ∧ x = i
  · rw [if_pos q]
    obtain ⟨rfl, rfl⟩ := q
    refine ⟨fun hc => (by cases hc), fun hc => ?_⟩
    rw [hi] at hc
    rcases hc with (hc | ⟨y, hy, hc⟩) | hc
    · have := (blks_lt hc).2
      simp only at this
      omega
    · injection hc with h1 h2
      have := two_pos (o + y)
      omega
    · have := (blks_lt hc).1
      simp only at this
      omega
  · rw [if_neg q]
    have e3 : ∀ j, j ≤ k → (i * 2 ^ (k - j) + 1) * 2 ^ j = span a + 2 ^ j := fun j hj => by
      rw [Nat.add_mul, Nat.mul_assoc, ← Nat.pow_add, show k - j + j = k by omega, hi, Nat.one_mul]
    by_cases q2 : o ≤ j ∧ j < k ∧ x = i * 2 ^ (k - j) + 1
    · rw [if_pos q2]
      obtain ⟨q3, q4, rfl⟩ := q2
      refine ⟨fun _ => .inl (.inr ⟨j - o, List.mem_range.2 (by omega), ?_⟩), fun _ => rfl⟩
      rw [e3 j (by omega), show o + (j - o) = j by omega]
    · rw [if_neg q2, key]
      constructor
      · rintro (hc | hc | hc)
        · exact .inl (.inl hc)
        · injection hc with h1 h2
          subst h2
          exact absurd ⟨rfl, place_inj (k := j) (by rw [h1, hi])⟩ q
        · exact .inr hc
      · rintro ((hc | ⟨y, hy, hc⟩) | hc)
        · exact .inl hc
        · exfalso
          have hy := List.mem_range.1 hy
          injection hc with h1 h2
          refine q2 ⟨by omega, by omega, place_inj (k := j) ?_⟩
          rw [e3 j (by omega), ← h1, h2]
        · exact .inr (.inr hc)
theorem URel.take {U : Int → Option Nat} {o k : Nat} {a b : List Tl} (h : URel U (a ++ (k, true) :: b)) (ho : o ≤ k) : URel (updU U (1024 * (span a : Nat)) (some o)) (takeT o k a b) := fun x j => by
  have key := h x j
  rw [blks_used false a b k (by decide)] at key
  rw [take_used a b ho]
  unfold updU
  have hkp := two_pos k
  simp only [List.mem_append, List.mem_cons] at key ⊢
  by_cases q : x = 1024 * ((span a : Nat) : Int)
  · rw [if_pos q]
    subst q
    constructor
    · intro hj
      injection hj with hj
      subst hj
      exact ⟨span a, rfl, .inr (.inl rfl)⟩
    · rintro ⟨p, hp, hc | hc | hc⟩
      · have := (blks_lt hc).2
        have := two_pos j
        simp only at *
        omega
      · injection hc with h1 h2
        rw [h2]
      · have := (blks_lt hc).1
        simp only at this
        omega
  · rw [if_neg q, key]
    constructor
    · rintro ⟨p, hp, hc | hc⟩
      · exact ⟨p, hp, .inl hc⟩
      · exact ⟨p, hp, .inr (.inr hc)⟩
    · rintro ⟨p, hp, hc | hc | hc⟩
      · exact ⟨p, hp, .inl hc⟩
      · injection hc with h1 h2
        subst h1
        exact absurd hp q
      · exact ⟨p, hp, .inr hc⟩
theorem URel.give {U : Int → Option Nat} {k : Nat} {a b : List Tl} {x0 : Int} (h : URel U (a ++ (k, false) :: b)) (h0 : x0 = 1024 * ((span a : Nat) : Int)) (n : Nat) : URel (updU U x0 none) (melt n a.reverse k b) := fun x j => by
  subst h0
  have key := h x j
  rw [blks_same] at key
  rw [melt_used, List.reverse_reverse, span_rev]
  unfold updU
  have hkp := two_pos k
  simp only [List.mem_append, List.mem_cons] at key ⊢
  by_cases q : x = 1024 * ((span a : Nat) : Int)
  · rw [if_pos q]
    subst q
    refine ⟨fun hc => (by cases hc), ?_⟩
    rintro ⟨p, hp, hc | hc⟩
    · have := (blks_lt hc).2
      have := two_pos j
      simp only at *
      omega
    · have := (blks_lt hc).1
      simp only at this
      omega
  · rw [if_neg q, key]
    constructor
    · rintro ⟨p, hp, hc | hc | hc⟩
      · exact ⟨p, hp, .inl hc⟩
      · injection hc with h1 h2
        subst h1
        exact absurd hp q
      · exact ⟨p, hp, .inr hc⟩
    · rintro ⟨p, hp, hc | hc⟩
      · exact ⟨p, hp, .inl hc⟩
      · exact ⟨p, hp, .inr (.inr hc)⟩
end Go.Proofs.YtflkoabgkgegjaaDoor
