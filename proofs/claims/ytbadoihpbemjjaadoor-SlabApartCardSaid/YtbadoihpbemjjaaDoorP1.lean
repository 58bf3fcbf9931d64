/- The plain law of giving blocks back: free buddies melt into one. No condition. -/
import Derived.Test.YtbadoihpbemjjaaDoorP0
namespace Go.Proofs.YtbadoihpbemjjaaDoor

theorem span_rev : ∀ a : List Tl, span a.reverse = span a
  | [] => rfl
  | t :: a => by simp only [List.reverse_cons, span_append, span_rev a, span]; omega
/-- one melting more: where a block of order k stands between some tiles (the ones ahead of it backwards) -/
def step (ra : List Tl) (k : Nat) (b : List Tl) : Option (List Tl × List Tl) :=
  if span ra / 2 ^ k % 2 = 0 then
    match b with
    | (j, true) :: b' => if j = k then some (ra, b') else none
    | _ => none
  else
    match ra with
    | (j, true) :: ra' => if j = k then some (ra', b) else none
    | _ => none
def melt : Nat → List Tl → Nat → List Tl → List Tl
  | 0, ra, k, b => ra.reverse ++ (k, true) :: b
  | n + 1, ra, k, b => match step ra k b with
    | some (ra', b') => melt n ra' (k + 1) b'
    | none => ra.reverse ++ (k, true) :: b
theorem step_some {ra b ra' b' : List Tl} {k : Nat} (h : step ra k b = some (ra', b')) :
    (span ra / 2 ^ k % 2 = 0 ∧ ra' = ra ∧ b = (k, true) :: b') ∨ (span ra / 2 ^ k % 2 = 1 ∧ ra = (k, true) :: ra' ∧ b' = b) := by
  unfold step at h
  by_cases e : span ra / 2 ^ k % 2 = 0
  · rw [if_pos e] at h
    left
    split at h
    · split at h
      · rename_i hj
        subst hj
        injection h with h
        injection h with h1 h2
        exact ⟨e, h1.symm, by rw [h2]⟩
      · cases h
    · cases h
  · rw [if_neg e] at h
    right
    split at h
    · split at h
      · rename_i hj
        subst hj
        injection h with h
        injection h with h1 h2
        exact ⟨by omega, by rw [h1], h2.symm⟩
      · cases h
    · cases h
theorem step_right {ra b : List Tl} {k : Nat} (h : span ra / 2 ^ k % 2 = 0) : step ra k ((k, true) :: b) = some (ra, b) := by
  unfold step
  rw [if_pos h]
  simp
theorem step_left {ra b : List Tl} {k : Nat} (h : span ((k, true) :: ra) / 2 ^ k % 2 = 1) : step ((k, true) :: ra) k b = some (ra, b) := by
  unfold step
  rw [if_neg (by omega)]
  simp
theorem step_none_right {ra b : List Tl} {k : Nat} (h : step ra k b = none) (e : span ra / 2 ^ k % 2 = 0) : ∀ b', b ≠ (k, true) :: b' := fun b' hb => by
  subst hb
  rw [step_right e] at h
  cases h
theorem step_none_left {ra b : List Tl} {k : Nat} (h : step ra k b = none) (e : span ra / 2 ^ k % 2 = 1) : ∀ ra', ra ≠ (k, true) :: ra' := fun ra' hb => by
  subst hb
  rw [step_left e] at h
  cases h
/-- a block of order k that is neither free nor used stands between tiles -/
structure Mid (top : Nat) (ra : List Tl) (k : Nat) (b : List Tl) : Prop where
  all : span ra + 2 ^ k + span b = 2 ^ top
  at_ : span ra % 2 ^ k = 0
  liesA : Lies 0 ra.reverse
  liesB : Lies (span ra + 2 ^ k) b
  apartA : Apart 0 ra.reverse
  apartB : Apart (span ra + 2 ^ k) b
  leA : ∀ t ∈ ra, t.1 ≤ top
  leB : ∀ t ∈ b, t.1 ≤ top
theorem Mid.le {top k : Nat} {ra b : List Tl} (h : Mid top ra k b) : k ≤ top := by
  have := h.all
  exact (Nat.pow_le_pow_iff_right (by decide)).1 (show 2 ^ k ≤ 2 ^ top by omega)
theorem Mid.of_good {top k : Nat} {f : Bool} {a b : List Tl} (h : Good top (a ++ (k, f) :: b)) : Mid top a.reverse k b := by
  have h1 := h.all
  have h2 := lies_append.1 h.lies
  have h3 := apart_append h.apart
  rw [span_append] at h1
  simp only [span, Lies, Nat.zero_add] at h1 h2
  have h4 := h3.2.2
  simp only [Nat.zero_add] at h4
  refine ⟨by rw [span_rev]; omega, by rw [span_rev]; exact h2.2.1, by rw [List.reverse_reverse]; exact h2.1, by rw [span_rev]; exact h2.2.2, by rw [List.reverse_reverse]; exact h3.1, by rw [span_rev]; exact h4, fun t ht => h.le t (List.mem_append_left _ (List.mem_reverse.1 ht)), fun t ht => h.le t (List.mem_append_right _ (List.mem_cons_of_mem _ ht))⟩
theorem even_mod {p k : Nat} (h : p % 2 ^ k = 0) (e : p / 2 ^ k % 2 = 0) : p % 2 ^ (k + 1) = 0 := by
  obtain ⟨c, hc⟩ := Nat.dvd_of_mod_eq_zero h
  subst hc
  rw [Nat.mul_div_cancel_left _ (two_pos k)] at e
  obtain ⟨d, hd⟩ := Nat.dvd_of_mod_eq_zero e
  subst hd
  rw [← Nat.mul_assoc, ← Nat.pow_succ]
  exact Nat.mul_mod_right _ _
theorem odd_mod {p k : Nat} (h : (p + 2 ^ k) % 2 ^ k = 0) (e : (p + 2 ^ k) / 2 ^ k % 2 = 1) : p % 2 ^ (k + 1) = 0 := by
  have h1 : p % 2 ^ k = 0 := by rw [Nat.add_mod_right] at h; exact h
  refine even_mod h1 ?_
  rw [Nat.add_div_right _ (two_pos k)] at e
  omega
theorem mod_even {p k : Nat} (h : p % 2 ^ (k + 1) = 0) : p / 2 ^ k % 2 = 0 := by
  obtain ⟨c, hc⟩ := Nat.dvd_of_mod_eq_zero h
  subst hc
  rw [Nat.pow_succ, Nat.mul_assoc, Nat.mul_div_cancel_left _ (two_pos k)]
  exact Nat.mul_mod_right _ _
theorem mod_odd {p k : Nat} (h : p % 2 ^ (k + 1) = 0) : (p + 2 ^ k) / 2 ^ k % 2 = 1 := by
  have := mod_even h
  rw [Nat.add_div_right _ (two_pos k)]
  omega
theorem Mid.step_ {top k : Nat} {ra b ra' b' : List Tl} (h : Mid top ra k b) (hs : step ra k b = some (ra', b')) : Mid top ra' (k + 1) b' := by
  have p2 : 2 ^ (k + 1) = 2 ^ k + 2 ^ k := by rw [Nat.pow_succ]; omega
  have hall := h.all
  have hat := h.at_
  rcases step_some hs with ⟨e, rfl, rfl⟩ | ⟨e, rfl, rfl⟩
  · simp only [span] at hall
    have e2 : span ra' + 2 ^ (k + 1) = span ra' + 2 ^ k + 2 ^ k := by omega
    refine ⟨by omega, even_mod hat e, h.liesA, ?_, h.apartA, ?_, h.leA, fun t ht => h.leB t (List.mem_cons_of_mem _ ht)⟩
    · rw [e2]; exact h.liesB.2
    · rw [e2]; exact h.apartB.2
  · simp only [span] at hall hat e
    have hA := h.liesA
    have hP := h.apartA
    simp only [List.reverse_cons] at hA hP
    have e2 : span ra' + 2 ^ (k + 1) = span ((k, true) :: ra') + 2 ^ k := by simp only [span]; omega
    refine ⟨by omega, odd_mod (by rwa [Nat.add_comm]) (by rwa [Nat.add_comm]), (lies_append.1 hA).1, ?_, (apart_append hP).1, ?_, fun t ht => h.leA t (List.mem_cons_of_mem _ ht), h.leB⟩
    · rw [e2]; exact h.liesB
    · rw [e2]; exact h.apartB
/-- no step: the block is laid as a free one -/
theorem Mid.stop {top k : Nat} {ra b : List Tl} (h : Mid top ra k b) (hs : k < top → step ra k b = none) : Good top (ra.reverse ++ (k, true) :: b) := by
  have hk := h.le
  have hall := h.all
  refine ⟨by rw [span_append, span_rev]; simp only [span]; omega, lies_append.2 ⟨h.liesA, by rw [span_rev, Nat.zero_add]; exact ⟨h.at_, h.liesB⟩⟩, ?_, fun t ht => ?_⟩
  · by_cases hlt : k < top
    · have hn := hs hlt
      refine apart_join h.apartA ?_ ?_
      · rw [span_rev, Nat.zero_add]
        refine ⟨fun u l' e => ?_, h.apartB⟩
        rintro ⟨rfl, _, h4⟩
        exact step_none_right hn (mod_even h4) l' e
      · intro a' t b' e1 e2 e3 h4
        injection e2 with e2 _
        subst e2
        have e5 : ra = (k, true) :: a'.reverse := by
          have := congrArg List.reverse e1
          simpa using this
        subst e5
        rw [Nat.zero_add] at h4
        refine step_none_left hn ?_ _ rfl
        simp only [span, span_rev]
        rw [Nat.add_comm]
        exact mod_odd h4
    · have e : k = top := by omega
      subst e
      have z : ∀ l : List Tl, span l = 0 → l = [] := fun l hl => by
        cases l with
        | nil => rfl
        | cons t l =>
          have := two_pos t.1
          simp only [span] at hl
          omega
      have e1 := z ra (by omega)
      have e2 := z b (by omega)
      subst e1
      subst e2
      exact ⟨fun _ _ e => (by cases e), trivial⟩
  · rcases List.mem_append.1 ht with ht | ht
    · exact h.leA t (List.mem_reverse.1 ht)
    · rcases List.mem_cons.1 ht with rfl | ht
      · exact hk
      · exact h.leB t ht
theorem melt_stop {n k : Nat} {ra b : List Tl} (h : step ra k b = none) : melt n ra k b = ra.reverse ++ (k, true) :: b := by
  cases n with
  | zero => rfl
  | succ n => unfold melt; rw [h]
theorem melt_step {n k : Nat} {ra b ra' b' : List Tl} (h : step ra k b = some (ra', b')) : melt (n + 1) ra k b = melt n ra' (k + 1) b' := by
  rw [melt, h]
/-- what is left when all melts -/
theorem melt_good {top : Nat} : ∀ {n k : Nat} {ra b : List Tl}, n = top - k → Mid top ra k b → Good top (melt n ra k b)
  | 0, k, ra, b, hn, h => h.stop fun q => by omega
  | n + 1, k, ra, b, hn, h => by
    cases hs : step ra k b with
    | none => rw [melt_stop hs]; exact h.stop fun _ => hs
    | some x =>
      obtain ⟨ra', b'⟩ := x
      rw [melt_step hs]
      exact melt_good (by omega) (h.step_ hs)
/-- melting turns no used block -/
theorem melt_used : ∀ (n k : Nat) (ra b : List Tl), blks false 0 (melt n ra k b) = blks false 0 ra.reverse ++ blks false (span ra + 2 ^ k) b
  | 0, k, ra, b => by
    show blks false 0 (ra.reverse ++ (k, true) :: b) = _
    rw [blks_append, span_rev]
    simp [blks]
  | n + 1, k, ra, b => by
    cases hs : step ra k b with
    | none =>
      rw [melt_stop hs, blks_append, span_rev]
      simp [blks]
    | some x =>
      obtain ⟨ra', b'⟩ := x
      rw [melt_step hs, melt_used n (k + 1) ra' b']
      have p2 : 2 ^ (k + 1) = 2 ^ k + 2 ^ k := by rw [Nat.pow_succ]; omega
      rcases step_some hs with ⟨e, rfl, rfl⟩ | ⟨e, rfl, rfl⟩
      · simp only [blks, Bool.true_eq_false, if_false]
        rw [show span ra' + 2 ^ (k + 1) = span ra' + 2 ^ k + 2 ^ k by omega]
      · rw [List.reverse_cons, blks_append]
        simp only [blks, Bool.true_eq_false, if_false, List.append_nil, span]
        rw [show span ra' + 2 ^ (k + 1) = 2 ^ k + span ra' + 2 ^ k by omega]
end Go.Proofs.YtbadoihpbemjjaaDoor
