/- The plain law of an allocator of blocks of powers of two: one list of tiles, each with its order and whether it is free; no program in sight. No condition. And what follows from it. -/
import Derived.Lib.Hide
/- The plain law of an allocator of blocks of powers of two: one list of tiles, each with its order and whether it is free; no program in sight. No condition. -/
namespace Go.Proofs.YtflkoabgkgegjaaGreatDoor

/-- a tile: its order, whether it is free -/
abbrev Tl := Nat × Bool
/-- how many pages some tiles have -/
def span : List Tl → Nat
  | [] => 0
  | t :: l => 2 ^ t.1 + span l
theorem span_append : ∀ a b : List Tl, span (a ++ b) = span a + span b
  | [], b => by simp [span]
  | t :: a, b => by
    have := span_append a b
    simp only [List.cons_append, span, this]
    omega
/-- the blocks of one kind: where they begin, their orders; tiles that begin at p -/
def blks (f : Bool) : Nat → List Tl → List (Nat × Nat)
  | _, [] => []
  | p, t :: l => if t.2 = f then (p, t.1) :: blks f (p + 2 ^ t.1) l else blks f (p + 2 ^ t.1) l
theorem blks_append (f : Bool) : ∀ (p : Nat) (a b : List Tl), blks f p (a ++ b) = blks f p a ++ blks f (p + span a) b
  | p, [], b => by simp [blks, span]
  | p, t :: a, b => by
    have := blks_append f (p + 2 ^ t.1) a b
    simp only [List.cons_append, blks, this, span]
    rw [show p + 2 ^ t.1 + span a = p + (2 ^ t.1 + span a) by omega]
    split
    · rfl
    · rfl
theorem two_pos (k : Nat) : 0 < 2 ^ k := Nat.two_pow_pos k
/-- a block's address is among the tiles' -/
theorem blks_mem {f : Bool} {x : Nat × Nat} : ∀ {p : Nat} {l : List Tl}, x ∈ blks f p l → ∃ a b, l = a ++ (x.2, f) :: b ∧ x.1 = p + span a
  | p, [], h => by simp [blks] at h
  | p, t :: l, h => by
    unfold blks at h
    split at h
    · rename_i e
      rcases List.mem_cons.1 h with rfl | h
      · exact ⟨[], l, by rw [← e]; rfl, by simp [span]⟩
      · obtain ⟨a, b, rfl, hx⟩ := blks_mem h
        exact ⟨t :: a, b, rfl, by rw [hx]; simp only [span]; omega⟩
    · obtain ⟨a, b, rfl, hx⟩ := blks_mem h
      exact ⟨t :: a, b, rfl, by rw [hx]; simp only [span]; omega⟩
theorem blks_at (f : Bool) (p : Nat) (a b : List Tl) (k : Nat) : (p + span a, k) ∈ blks f p (a ++ (k, f) :: b) := by
  rw [blks_append]
  exact List.mem_append_right _ (by simp [blks])
/-- a tile that begins at an address is one -/
theorem tile_one : ∀ {a a' b b' : List Tl} {t t' : Tl}, a ++ t :: b = a' ++ t' :: b' → span a = span a' → a = a' ∧ t = t' ∧ b = b'
  | [], [], _, _, _, _, h, _ => by
    injection h with h1 h2
    exact ⟨rfl, h1, h2⟩
  | [], u :: a', _, _, _, _, _, hs => by
    have := two_pos u.1
    simp only [span] at hs
    omega
  | u :: a, [], _, _, _, _, _, hs => by
    have := two_pos u.1
    simp only [span] at hs
    omega
  | u :: a, u' :: a', b, b', t, t', h, hs => by
    simp only [List.cons_append] at h
    injection h with h1 h2
    subst h1
    simp only [span] at hs
    obtain ⟨e1, e2, e3⟩ := tile_one h2 (by omega)
    exact ⟨by rw [e1], e2, e3⟩
theorem blks_lt {f : Bool} {x : Nat × Nat} {p : Nat} {l : List Tl} (h : x ∈ blks f p l) : p ≤ x.1 ∧ x.1 + 2 ^ x.2 ≤ p + span l := by
  obtain ⟨a, b, rfl, hx⟩ := blks_mem h
  rw [span_append]
  simp only [span]
  omega
/-- blocks by rising addresses -/
def Rises (l : List (Nat × Nat)) : Prop := l.Pairwise fun x y => x.1 < y.1
theorem blks_rise (f : Bool) : ∀ (p : Nat) (l : List Tl), Rises (blks f p l)
  | _, [] => List.Pairwise.nil
  | p, t :: l => by
    unfold blks
    split
    · refine List.Pairwise.cons (fun x hx => ?_) (blks_rise f _ l)
      have := (blks_lt hx).1
      have := two_pos t.1
      omega
    · exact blks_rise f _ l
/-- what rises is one list, if it has the same blocks -/
theorem rises_eq : ∀ {l m : List (Nat × Nat)}, Rises l → Rises m → (∀ x, x ∈ l ↔ x ∈ m) → l = m
  | [], [], _, _, _ => rfl
  | [], y :: m, _, _, h => absurd ((h y).2 List.mem_cons_self) List.not_mem_nil
  | x :: l, [], _, _, h => absurd ((h x).1 List.mem_cons_self) List.not_mem_nil
  | x :: l, y :: m, hl, hm, h => by
    obtain ⟨hl1, hl2⟩ := List.pairwise_cons.1 hl
    obtain ⟨hm1, hm2⟩ := List.pairwise_cons.1 hm
    have e : x = y := by
      rcases List.mem_cons.1 ((h x).1 List.mem_cons_self) with e | hx
      · exact e
      · rcases List.mem_cons.1 ((h y).2 List.mem_cons_self) with e | hy
        · exact e.symm
        · have := hm1 x hx
          have := hl1 y hy
          omega
    subst e
    congr 1
    refine rises_eq hl2 hm2 fun z => ⟨fun hz => ?_, fun hz => ?_⟩
    · rcases List.mem_cons.1 ((h z).1 (List.mem_cons_of_mem _ hz)) with e | hz2
      · have := hl1 z hz; rw [e] at this; omega
      · exact hz2
    · rcases List.mem_cons.1 ((h z).2 (List.mem_cons_of_mem _ hz)) with e | hz2
      · have := hm1 z hz; rw [e] at this; omega
      · exact hz2

/-! ## taking -/

/-- the pieces behind a block that is split: from one order on, so many -/
def pieces (o : Nat) : Nat → List Tl
  | 0 => []
  | n + 1 => pieces o n ++ [(o + n, true)]
theorem span_pieces (o : Nat) : ∀ n, 2 ^ o + span (pieces o n) = 2 ^ (o + n)
  | 0 => by simp [pieces, span]
  | n + 1 => by
    have := span_pieces o n
    simp only [pieces, span_append, span]
    rw [show o + (n + 1) = (o + n) + 1 by omega, Nat.pow_succ]
    omega
/-- the least order of a free block that is no less than one -/
def best (o : Nat) : List Tl → Option Nat
  | [] => none
  | t :: l => if t.2 = true ∧ o ≤ t.1 then some (match best o l with | none => t.1 | some k => min t.1 k) else best o l
theorem best_none {o : Nat} : ∀ {l : List Tl}, best o l = none → ∀ t ∈ l, t.2 = true → t.1 < o
  | [], _, t, ht, _ => absurd ht List.not_mem_nil
  | u :: l, h, t, ht, hf => by
    unfold best at h
    split at h
    · cases h
    · rename_i hn
      rcases List.mem_cons.1 ht with rfl | ht
      · by_cases q : o ≤ t.1
        · exact absurd ⟨hf, q⟩ hn
        · omega
      · exact best_none h t ht hf
theorem best_some {o k : Nat} : ∀ {l : List Tl}, best o l = some k → o ≤ k ∧ (k, true) ∈ l ∧ ∀ t ∈ l, t.2 = true → o ≤ t.1 → k ≤ t.1
  | [], h => by cases h
  | u :: l, h => by
    unfold best at h
    split at h
    · rename_i hu
      cases hb : best o l with
      | none =>
        rw [hb] at h
        injection h with h
        dsimp only at h
        subst h
        refine ⟨hu.2, by rw [← hu.1]; exact List.mem_cons_self, fun t ht hf ho => ?_⟩
        rcases List.mem_cons.1 ht with rfl | ht
        · omega
        · have := best_none hb t ht hf; omega
      | some j =>
        rw [hb] at h
        injection h with h
        dsimp only at h
        obtain ⟨j1, j2, j3⟩ := best_some hb
        by_cases q : u.1 ≤ j
        · rw [Nat.min_eq_left q] at h
          subst h
          refine ⟨hu.2, by rw [← hu.1]; exact List.mem_cons_self, fun t ht hf ho => ?_⟩
          rcases List.mem_cons.1 ht with rfl | ht
          · omega
          · have := j3 t ht hf ho; omega
        · rw [Nat.min_eq_right (by omega)] at h
          subst h
          refine ⟨j1, List.mem_cons_of_mem _ j2, fun t ht hf ho => ?_⟩
          rcases List.mem_cons.1 ht with rfl | ht
          · omega
          · exact j3 t ht hf ho
    · rename_i hn
      obtain ⟨j1, j2, j3⟩ := best_some h
      refine ⟨j1, List.mem_cons_of_mem _ j2, fun t ht hf ho => ?_⟩
      rcases List.mem_cons.1 ht with rfl | ht
      · exact absurd ⟨hf, ho⟩ hn
      · exact j3 t ht hf ho
/-- what stands ahead of the first free tile of an order, and behind it -/
theorem first_split {t : Tl} : ∀ {l : List Tl}, t ∈ l → ∃ a b, l = a ++ t :: b ∧ t ∉ a
  | [], h => absurd h List.not_mem_nil
  | u :: l, h => by
    by_cases e : u = t
    · subst e
      exact ⟨[], l, rfl, List.not_mem_nil⟩
    · rcases List.mem_cons.1 h with q | q
      · exact absurd q.symm e
      · obtain ⟨a, b, rfl, hn⟩ := first_split q
        exact ⟨u :: a, b, rfl, fun hm => by
          rcases List.mem_cons.1 hm with q | q
          · exact e q.symm
          · exact hn q⟩
/-- an order is taken out of some tiles: the tiles, and the address -/
def takeT (o k : Nat) (a b : List Tl) : List Tl := a ++ (o, false) :: (pieces o (k - o) ++ b)

/-! ## what always is so -/

/-- each tile begins where its size divides; tiles that begin at p -/
def Lies : Nat → List Tl → Prop
  | _, [] => True
  | p, t :: l => p % 2 ^ t.1 = 0 ∧ Lies (p + 2 ^ t.1) l
theorem lies_append : ∀ {p : Nat} {a b : List Tl}, Lies p (a ++ b) ↔ Lies p a ∧ Lies (p + span a) b
  | p, [], b => by simp [Lies, span]
  | p, t :: a, b => by
    simp only [List.cons_append, Lies, span, lies_append (p := p + 2 ^ t.1) (a := a) (b := b), and_assoc]
    rw [show p + 2 ^ t.1 + span a = p + (2 ^ t.1 + span a) by omega]
/-- no two free tiles are buddies -/
def Apart : Nat → List Tl → Prop
  | _, [] => True
  | p, t :: l => (∀ u l', l = u :: l' → ¬ (u = t ∧ t.2 = true ∧ p % 2 ^ (t.1 + 1) = 0)) ∧ Apart (p + 2 ^ t.1) l
theorem apart_append {p : Nat} {a b : List Tl} (h : Apart p (a ++ b)) : Apart p a ∧ Apart (p + span a) b := by
  induction a generalizing p with
  | nil => exact ⟨trivial, by simpa [span] using h⟩
  | cons t a ih =>
    obtain ⟨h1, h2⟩ := h
    obtain ⟨h3, h4⟩ := ih h2
    refine ⟨⟨fun u l' e => h1 u (l' ++ b) (by rw [e]; rfl), h3⟩, ?_⟩
    simp only [span]
    rwa [show p + (2 ^ t.1 + span a) = p + 2 ^ t.1 + span a by omega]
/-- a seam: the last tile ahead of it and the first behind it are no free buddies -/
theorem apart_join {p : Nat} {a b : List Tl} (ha : Apart p a) (hb : Apart (p + span a) b) (hs : ∀ a' t b', a = a' ++ [t] → b = t :: b' → t.2 = true → (p + span a') % 2 ^ (t.1 + 1) ≠ 0) : Apart p (a ++ b) := by
  induction a generalizing p with
  | nil => simpa [span] using hb
  | cons t a ih =>
    obtain ⟨h1, h2⟩ := ha
    refine ⟨fun u l' e => ?_, ih h2 (by simp only [span] at hb; rwa [show p + 2 ^ t.1 + span a = p + (2 ^ t.1 + span a) by omega]) (fun a' u b' e1 e2 e3 => ?_)⟩
    · cases a with
      | nil =>
        rintro ⟨rfl, h3, h4⟩
        exact hs [] u l' rfl (by simpa using e) h3 (by simpa [span] using h4)
      | cons v a =>
        injection e with e1 e2
        exact h1 u a (by rw [e1])
    · have := hs (t :: a') u b' (by rw [e1]; rfl) e2 e3
      simp only [span] at this
      rwa [show p + 2 ^ t.1 + span a' = p + (2 ^ t.1 + span a') by omega]
structure Good (top : Nat) (l : List Tl) : Prop where
  all : span l = 2 ^ top
  lies : Lies 0 l
  apart : Apart 0 l
  le : ∀ t ∈ l, t.1 ≤ top
theorem pow_dvd_mod {p a b : Nat} (h : a ≤ b) (hp : p % 2 ^ b = 0) : p % 2 ^ a = 0 := by
  have d : 2 ^ a ∣ 2 ^ b := Nat.pow_dvd_pow 2 h
  exact Nat.mod_eq_zero_of_dvd (Nat.dvd_trans d (Nat.dvd_of_mod_eq_zero hp))
end Go.Proofs.YtflkoabgkgegjaaGreatDoor
/- The plain law of giving blocks back: free buddies melt into one. No condition. -/
namespace Go.Proofs.YtflkoabgkgegjaaGreatDoor

theorem span_rev : ∀ a : List Tl, span a.reverse = span a
  | [] => rfl
  | t :: a => by simp only [List.reverse_cons, span_append, span_rev a, span]; omega
/-- one melting more: where a block of order k stands between some tiles (the ones ahead of it backwards) -/
def step (ra : List Tl) (k : Nat) (b : List Tl) : Option (List Tl × List Tl) :=
  if span ra / 2 ^ k % 2 = 0 then
    match b with
    | (j, true) :: b' => if j = k then some (ra, b') else none
    | _ => none
  else
    match ra with
    | (j, true) :: ra' => if j = k then some (ra', b) else none
    | _ => none
def melt : Nat → List Tl → Nat → List Tl → List Tl
  | 0, ra, k, b => ra.reverse ++ (k, true) :: b
  | n + 1, ra, k, b => match step ra k b with
    | some (ra', b') => melt n ra' (k + 1) b'
    | none => ra.reverse ++ (k, true) :: b
theorem step_some {ra b ra' b' : List Tl} {k : Nat} (h : step ra k b = some (ra', b')) :
    (span ra / 2 ^ k % 2 = 0 ∧ ra' = ra ∧ b = (k, true) :: b') ∨ (span ra / 2 ^ k % 2 = 1 ∧ ra = (k, true) :: ra' ∧ b' = b) := by
  unfold step at h
  by_cases e : span ra / 2 ^ k % 2 = 0
  · rw [if_pos e] at h
    left
    split at h
    · split at h
      · rename_i hj
        subst hj
        injection h with h
        injection h with h1 h2
        exact ⟨e, h1.symm, by rw [h2]⟩
      · cases h
    · cases h
  · rw [if_neg e] at h
    right
    split at h
    · split at h
      · rename_i hj
        subst hj
        injection h with h
        injection h with h1 h2
        exact ⟨by omega, by rw [h1], h2.symm⟩
      · cases h
    · cases h
theorem step_right {ra b : List Tl} {k : Nat} (h : span ra / 2 ^ k % 2 = 0) : step ra k ((k, true) :: b) = some (ra, b) := by
  unfold step
  rw [if_pos h]
  simp
theorem step_left {ra b : List Tl} {k : Nat} (h : span ((k, true) :: ra) / 2 ^ k % 2 = 1) : step ((k, true) :: ra) k b = some (ra, b) := by
  unfold step
  rw [if_neg (by omega)]
  simp
theorem step_none_right {ra b : List Tl} {k : Nat} (h : step ra k b = none) (e : span ra / 2 ^ k % 2 = 0) : ∀ b', b ≠ (k, true) :: b' := fun b' hb => by
  subst hb
  rw [step_right e] at h
  cases h
theorem step_none_left {ra b : List Tl} {k : Nat} (h : step ra k b = none) (e : span ra / 2 ^ k % 2 = 1) : ∀ ra', ra ≠ (k, true) :: ra' := fun ra' hb => by
  subst hb
  rw [step_left e] at h
  cases h
/-- a block of order k that is neither free nor used stands between tiles -/
structure Mid (top : Nat) (ra : List Tl) (k : Nat) (b : List Tl) : Prop where
  all : span ra + 2 ^ k + span b = 2 ^ top
  at_ : span ra % 2 ^ k = 0
  liesA : Lies 0 ra.reverse
  liesB : Lies (span ra + 2 ^ k) b
  apartA : Apart 0 ra.reverse
  apartB : Apart (span ra + 2 ^ k) b
  leA : ∀ t ∈ ra, t.1 ≤ top
  leB : ∀ t ∈ b, t.1 ≤ top
theorem Mid.le {top k : Nat} {ra b : List Tl} (h : Mid top ra k b) : k ≤ top := by
  have := h.all
  exact (Nat.pow_le_pow_iff_right (by decide)).1 (show 2 ^ k ≤ 2 ^ top by omega)
theorem Mid.of_good {top k : Nat} {f : Bool} {a b : List Tl} (h : Good top (a ++ (k, f) :: b)) : Mid top a.reverse k b := by
  have h1 := h.all
  have h2 := lies_append.1 h.lies
  have h3 := apart_append h.apart
  rw [span_append] at h1
  simp only [span, Lies, Nat.zero_add] at h1 h2
  have h4 := h3.2.2
  simp only [Nat.zero_add] at h4
  refine ⟨by rw [span_rev]; omega, by rw [span_rev]; exact h2.2.1, by rw [List.reverse_reverse]; exact h2.1, by rw [span_rev]; exact h2.2.2, by rw [List.reverse_reverse]; exact h3.1, by rw [span_rev]; exact h4, fun t ht => h.le t (List.mem_append_left _ (List.mem_reverse.1 ht)), fun t ht => h.le t (List.mem_append_right _ (List.mem_cons_of_mem _ ht))⟩
theorem even_mod {p k : Nat} (h : p % 2 ^ k = 0) (e : p / 2 ^ k % 2 = 0) : p % 2 ^ (k + 1) = 0 := by
  obtain ⟨c, hc⟩ := Nat.dvd_of_mod_eq_zero h
  subst hc
  rw [Nat.mul_div_cancel_left _ (two_pos k)] at e
  obtain ⟨d, hd⟩ := Nat.dvd_of_mod_eq_zero e
  subst hd
  rw [← Nat.mul_assoc, ← Nat.pow_succ]
  exact Nat.mul_mod_right _ _
theorem odd_mod {p k : Nat} (h : (p + 2 ^ k) % 2 ^ k = 0) (e : (p + 2 ^ k) / 2 ^ k % 2 = 1) : p % 2 ^ (k + 1) = 0 := by
  have h1 : p % 2 ^ k = 0 := by rw [Nat.add_mod_right] at h; exact h
  refine even_mod h1 ?_
  rw [Nat.add_div_right _ (two_pos k)] at e
  omega
theorem mod_even {p k : Nat} (h : p % 2 ^ (k + 1) = 0) : p / 2 ^ k % 2 = 0 := by
  obtain ⟨c, hc⟩ := Nat.dvd_of_mod_eq_zero h
  subst hc
  rw [Nat.pow_succ, Nat.mul_assoc, Nat.mul_div_cancel_left _ (two_pos k)]
  exact Nat.mul_mod_right _ _
theorem mod_odd {p k : Nat} (h : p % 2 ^ (k + 1) = 0) : (p + 2 ^ k) / 2 ^ k % 2 = 1 := by
  have := mod_even h
  rw [Nat.add_div_right _ (two_pos k)]
  omega
theorem Mid.step_ {top k : Nat} {ra b ra' b' : List Tl} (h : Mid top ra k b) (hs : step ra k b = some (ra', b')) : Mid top ra' (k + 1) b' := by
  have p2 : 2 ^ (k + 1) = 2 ^ k + 2 ^ k := by rw [Nat.pow_succ]; omega
  have hall := h.all
  have hat := h.at_
  rcases step_some hs with ⟨e, rfl, rfl⟩ | ⟨e, rfl, rfl⟩
  · simp only [span] at hall
    have e2 : span ra' + 2 ^ (k + 1) = span ra' + 2 ^ k + 2 ^ k := by omega
    refine ⟨by omega, even_mod hat e, h.liesA, ?_, h.apartA, ?_, h.leA, fun t ht => h.leB t (List.mem_cons_of_mem _ ht)⟩
    · rw [e2]; exact h.liesB.2
    · rw [e2]; exact h.apartB.2
  · simp only [span] at hall hat e
    have hA := h.liesA
    have hP := h.apartA
    simp only [List.reverse_cons] at hA hP
    have e2 : span ra' + 2 ^ (k + 1) = span ((k, true) :: ra') + 2 ^ k := by simp only [span]; omega
    refine ⟨by omega, odd_mod (by rwa [Nat.add_comm]) (by rwa [Nat.add_comm]), (lies_append.1 hA).1, ?_, (apart_append hP).1, ?_, fun t ht => h.leA t (List.mem_cons_of_mem _ ht), h.leB⟩
    · rw [e2]; exact h.liesB
    · rw [e2]; exact h.apartB
/-- no step: the block is laid as a free one -/
theorem Mid.stop {top k : Nat} {ra b : List Tl} (h : Mid top ra k b) (hs : k < top → step ra k b = none) : Good top (ra.reverse ++ (k, true) :: b) := by
  have hk := h.le
  have hall := h.all
  refine ⟨by rw [span_append, span_rev]; simp only [span]; omega, lies_append.2 ⟨h.liesA, by rw [span_rev, Nat.zero_add]; exact ⟨h.at_, h.liesB⟩⟩, ?_, fun t ht => ?_⟩
  · by_cases hlt : k < top
    · have hn := hs hlt
      refine apart_join h.apartA ?_ ?_
      · rw [span_rev, Nat.zero_add]
        refine ⟨fun u l' e => ?_, h.apartB⟩
        rintro ⟨rfl, _, h4⟩
        exact step_none_right hn (mod_even h4) l' e
      · intro a' t b' e1 e2 e3 h4
        injection e2 with e2 _
        subst e2
        have e5 : ra = (k, true) :: a'.reverse := by
          have := congrArg List.reverse e1
          simpa using this
        subst e5
        rw [Nat.zero_add] at h4
        refine step_none_left hn ?_ _ rfl
        simp only [span, span_rev]
        rw [Nat.add_comm]
        exact mod_odd h4
    · have e : k = top := by omega
      subst e
      have z : ∀ l : List Tl, span l = 0 → l = [] := fun l hl => by
        cases l with
        | nil => rfl
        | cons t l =>
          have := two_pos t.1
          simp only [span] at hl
          omega
      have e1 := z ra (by omega)
      have e2 := z b (by omega)
      subst e1
      subst e2
      exact ⟨fun _ _ e => (by cases e), trivial⟩
  · rcases List.mem_append.1 ht with ht | ht
    · exact h.leA t (List.mem_reverse.1 ht)
    · rcases List.mem_cons.1 ht with rfl | ht
      · exact hk
      · exact h.leB t ht
theorem melt_stop {n k : Nat} {ra b : List Tl} (h : step ra k b = none) : melt n ra k b = ra.reverse ++ (k, true) :: b := by
  cases n with
  | zero => rfl
  | succ n => unfold melt; rw [h]
theorem melt_step {n k : Nat} {ra b ra' b' : List Tl} (h : step ra k b = some (ra', b')) : melt (n + 1) ra k b = melt n ra' (k + 1) b' := by
  rw [melt, h]
/-- what is left when all melts -/
theorem melt_good {top : Nat} : ∀ {n k : Nat} {ra b : List Tl}, n = top - k → Mid top ra k b → Good top (melt n ra k b)
  | 0, k, ra, b, hn, h => h.stop fun q => by omega
  | n + 1, k, ra, b, hn, h => by
    cases hs : step ra k b with
    | none => rw [melt_stop hs]; exact h.stop fun _ => hs
    | some x =>
      obtain ⟨ra', b'⟩ := x
      rw [melt_step hs]
      exact melt_good (by omega) (h.step_ hs)
/-- melting turns no used block -/
theorem melt_used : ∀ (n k : Nat) (ra b : List Tl), blks false 0 (melt n ra k b) = blks false 0 ra.reverse ++ blks false (span ra + 2 ^ k) b
  | 0, k, ra, b => by
    show blks false 0 (ra.reverse ++ (k, true) :: b) = _
    rw [blks_append, span_rev]
    simp [blks]
  | n + 1, k, ra, b => by
    cases hs : step ra k b with
    | none =>
      rw [melt_stop hs, blks_append, span_rev]
      simp [blks]
    | some x =>
      obtain ⟨ra', b'⟩ := x
      rw [melt_step hs, melt_used n (k + 1) ra' b']
      have p2 : 2 ^ (k + 1) = 2 ^ k + 2 ^ k := by rw [Nat.pow_succ]; omega
      rcases step_some hs with ⟨e, rfl, rfl⟩ | ⟨e, rfl, rfl⟩
      · simp only [blks, Bool.true_eq_false, if_false]
        rw [show span ra' + 2 ^ (k + 1) = span ra' + 2 ^ k + 2 ^ k by omega]
      · rw [List.reverse_cons, blks_append]
        simp only [blks, Bool.true_eq_false, if_false, List.append_nil, span]
        rw [show span ra' + 2 ^ (k + 1) = 2 ^ k + span ra' + 2 ^ k by omega]
end Go.Proofs.YtflkoabgkgegjaaGreatDoor
