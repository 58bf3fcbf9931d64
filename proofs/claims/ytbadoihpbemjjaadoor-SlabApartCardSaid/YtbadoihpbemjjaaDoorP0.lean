/- The plain law of an allocator of blocks of powers of two: one list of tiles, each with its order and whether it is free; no program in sight. No condition. -/
import Derived.Lib.Hide
namespace Go.Proofs.YtbadoihpbemjjaaDoor

/-- a tile: its order, whether it is free -/
abbrev Tl := Nat × Bool
/-- how many pages some tiles have -/
def span : List Tl → Nat
  | [] => 0
  | t :: l => 2 ^ t.1 + span l
theorem span_append : ∀ a b : List Tl, span (a ++ b) = span a + span b
  | [], b => by simp [span]
  | t :: a, b => by
    have := span_append a b
    simp only [List.cons_append, span, this]
    omega
/-- the blocks of one kind: where they begin, their orders; tiles that begin at p -/
def blks (f : Bool) : Nat → List Tl → List (Nat × Nat)
  | _, [] => []
  | p, t :: l => if t.2 = f then (p, t.1) :: blks f (p + 2 ^ t.1) l else blks f (p + 2 ^ t.1) l
theorem blks_append (f : Bool) : ∀ (p : Nat) (a b : List Tl), blks f p (a ++ b) = blks f p a ++ blks f (p + span a) b
  | p, [], b => by simp [blks, span]
  | p, t :: a, b => by
    have := blks_append f (p + 2 ^ t.1) a b
    simp only [List.cons_append, blks, this, span]
    rw [show p + 2 ^ t.1 + span a = p + (2 ^ t.1 + span a) by omega]
    split
    · rfl
    · rfl
theorem two_pos (k : Nat) : 0 < 2 ^ k := Nat.two_pow_pos k
/-- a block's address is among the tiles' -/
theorem blks_mem {f : Bool} {x : Nat × Nat} : ∀ {p : Nat} {l : List Tl}, x ∈ blks f p l → ∃ a b, l = a ++ (x.2, f) :: b ∧ x.1 = p + span a
  | p, [], h => by simp [blks] at h
  | p, t :: l, h => by
    unfold blks at h
    split at h
    · rename_i e
      rcases List.mem_cons.1 h with rfl | h
      · exact ⟨[], l, by rw [← e]; rfl, by simp [span]⟩
      · obtain ⟨a, b, rfl, hx⟩ := blks_mem h
        exact ⟨t :: a, b, rfl, by rw [hx]; simp only [span]; omega⟩
    · obtain ⟨a, b, rfl, hx⟩ := blks_mem h
      exact ⟨t :: a, b, rfl, by rw [hx]; simp only [span]; omega⟩
theorem blks_at (f : Bool) (p : Nat) (a b : List Tl) (k : Nat) : (p + span a, k) ∈ blks f p (a ++ (k, f) :: b) := by
  rw [blks_append]
  exact List.mem_append_right _ (by simp [blks])
/-- a tile that begins at an address is one -/
theorem tile_one : ∀ {a a' b b' : List Tl} {t t' : Tl}, a ++ t :: b = a' ++ t' :: b' → span a = span a' → a = a' ∧ t = t' ∧ b = b'
  | [], [], _, _, _, _, h, _ => by
    injection h with h1 h2
    exact ⟨rfl, h1, h2⟩
  | [], u :: a', _, _, _, _, _, hs => by
    have := two_pos u.1
    simp only [span] at hs
    omega
  | u :: a, [], _, _, _, _, _, hs => by
    have := two_pos u.1
    simp only [span] at hs
    omega
  | u :: a, u' :: a', b, b', t, t', h, hs => by
    simp only [List.cons_append] at h
    injection h with h1 h2
    subst h1
    simp only [span] at hs
    obtain ⟨e1, e2, e3⟩ := tile_one h2 (by omega)
    exact ⟨by rw [e1], e2, e3⟩
theorem blks_lt {f : Bool} {x : Nat × Nat} {p : Nat} {l : List Tl} (h : x ∈ blks f p l) : p ≤ x.1 ∧ x.1 + 2 ^ x.2 ≤ p + span l := by
  obtain ⟨a, b, rfl, hx⟩ := blks_mem h
  rw [span_append]
  simp only [span]
  omega
/-- blocks by rising addresses -/
def Rises (l : List (Nat × Nat)) : Prop := l.Pairwise fun x y => x.1 < y.1
theorem blks_rise (f : Bool) : ∀ (p : Nat) (l : List Tl), Rises (blks f p l)
  | _, [] => List.Pairwise.nil
  | p, t :: l => by
    unfold blks
    split
    · refine List.Pairwise.cons (fun x hx => ?_) (blks_rise f _ l)
      have := (blks_lt hx).1
      have := two_pos t.1
      omega
    · exact blks_rise f _ l
/-- what rises is one list, if it has the same blocks -/
theorem rises_eq : ∀ {l m : List (Nat × Nat)}, Rises l → Rises m → (∀ x, x ∈ l ↔ x ∈ m) → l = m
  | [], [], _, _, _ => rfl
  | [], y :: m, _, _, h => absurd ((h y).2 List.mem_cons_self) List.not_mem_nil
  | x :: l, [], _, _, h => absurd ((h x).1 List.mem_cons_self) List.not_mem_nil
  | x :: l, y :: m, hl, hm, h => by
    obtain ⟨hl1, hl2⟩ := List.pairwise_cons.1 hl
    obtain ⟨hm1, hm2⟩ := List.pairwise_cons.1 hm
    have e : x = y := by
      rcases List.mem_cons.1 ((h x).1 List.mem_cons_self) with e | hx
      · exact e
      · rcases List.mem_cons.1 ((h y).2 List.mem_cons_self) with e | hy
        · exact e.symm
        · have := hm1 x hx
          have := hl1 y hy
          omega
    subst e
    congr 1
    refine rises_eq hl2 hm2 fun z => ⟨fun hz => ?_, fun hz => ?_⟩
    · rcases List.mem_cons.1 ((h z).1 (List.mem_cons_of_mem _ hz)) with e | hz2
      · have := hl1 z hz; rw [e] at this; omega
      · exact hz2
    · rcases List.mem_cons.1 ((h z).2 (List.mem_cons_of_mem _ hz)) with e | hz2
      · have := hm1 z hz; rw [e] at this; omega
      · exact hz2

/-! ## taking -/

/-- the pieces behind a block that is split: from one order on, so many -/
def pieces (o : Nat) : Nat → List Tl
  | 0 => []
  | n + 1 => pieces o n ++ [(o + n, true)]
theorem span_pieces (o : Nat) : ∀ n, 2 ^ o + span (pieces o n) = 2 ^ (o + n)
  | 0 => by simp [pieces, span]
  | n + 1 => by
    have := span_pieces o n
    simp only [pieces, span_append, span]
    rw [show o + (n + 1) = (o + n) + 1 by omega, Nat.pow_succ]
    omega
/-- the least order of a free block that is no less than one -/
def best (o : Nat) : List Tl → Option Nat
  | [] => none
  | t :: l => if t.2 = true ∧ o ≤ t.1 then some (match best o l with | none => t.1 | some k => min t.1 k) else best o l
theorem best_none {o : Nat} : ∀ {l : List Tl}, best o l = none → ∀ t ∈ l, t.2 = true → t.1 < o
  | [], _, t, ht, _ => absurd ht List.not_mem_nil
  | u :: l, h, t, ht, hf => by
    unfold best at h
    split at h
    · cases h
    · rename_i hn
      rcases List.mem_cons.1 ht with rfl | ht
      · by_cases q : o ≤ t.1
        · exact absurd ⟨hf, q⟩ hn
        · omega
      · exact best_none h t ht hf
theorem best_some {o k : Nat} : ∀ {l : List Tl}, best o l = some k → o ≤ k ∧ (k, true) ∈ l ∧ ∀ t ∈ l, t.2 = true → o ≤ t.1 → k ≤ t.1
  | [], h => by cases h
  | u :: l, h => by
    unfold best at h
    split at h
    · rename_i hu
      cases hb : best o l with
      | none =>
        rw [hb] at h
        injection h with h
        dsimp only at h
        subst h
        refine ⟨hu.2, by rw [← hu.1]; exact List.mem_cons_self, fun t ht hf ho => ?_⟩
        rcases List.mem_cons.1 ht with rfl | ht
        · omega
        · have := best_none hb t ht hf; omega
      | some j =>
        rw [hb] at h
        injection h with h
        dsimp only at h
        obtain ⟨j1, j2, j3⟩ := best_some hb
        by_cases q : u.1 ≤ j
        · rw [Nat.min_eq_left q] at h
          subst h
          refine ⟨hu.2, by rw [← hu.1]; exact List.mem_cons_self, fun t ht hf ho => ?_⟩
          rcases List.mem_cons.1 ht with rfl | ht
          · omega
          · have := j3 t ht hf ho; omega
        · rw [Nat.min_eq_right (by omega)] at h
          subst h
          refine ⟨j1, List.mem_cons_of_mem _ j2, fun t ht hf ho => ?_⟩
          rcases List.mem_cons.1 ht with rfl | ht
          · omega
          · exact j3 t ht hf ho
    · rename_i hn
      obtain ⟨j1, j2, j3⟩ := best_some h
      refine ⟨j1, List.mem_cons_of_mem _ j2, fun t ht hf ho => ?_⟩
      rcases List.mem_cons.1 ht with rfl | ht
      · exact absurd ⟨hf, ho⟩ hn
      · exact j3 t ht hf ho
/-- what stands ahead of the first free tile of an order, and behind it -/
theorem first_split {t : Tl} : ∀ {l : List Tl}, t ∈ l → ∃ a b, l = a ++ t :: b ∧ t ∉ a
  | [], h => absurd h List.not_mem_nil
  | u :: l, h => by
    by_cases e : u = t
    · subst e
      exact ⟨[], l, rfl, List.not_mem_nil⟩
    · rcases List.mem_cons.1 h with q | q
      · exact absurd q.symm e
      · obtain ⟨a, b, rfl, hn⟩ := first_split q
        exact ⟨u :: a, b, rfl, fun hm => by
          rcases List.mem_cons.1 hm with q | q
          · exact e q.symm
          · exact hn q⟩
/-- an order is taken out of some tiles: the tiles, and the address -/
def takeT (o k : Nat) (a b : List Tl) : List Tl := a ++ (o, false) :: (pieces o (k - o) ++ b)

/-! ## what always is so -/

/-- each tile begins where its size divides; tiles that begin at p -/
def Lies : Nat → List Tl → Prop
  | _, [] => True
  | p, t :: l => p % 2 ^ t.1 = 0 ∧ Lies (p + 2 ^ t.1) l
theorem lies_append : ∀ {p : Nat} {a b : List Tl}, Lies p (a ++ b) ↔ Lies p a ∧ Lies (p + span a) b
  | p, [], b => by simp [Lies, span]
  | p, t :: a, b => by
    simp only [List.cons_append, Lies, span, lies_append (p := p + 2 ^ t.1) (a := a) (b := b), and_assoc]
    rw [show p + 2 ^ t.1 + span a = p + (2 ^ t.1 + span a) by omega]
/-- no two free tiles are buddies -/
def Apart : Nat → List Tl → Prop
  | _, [] => True
  | p, t :: l => (∀ u l', l = u :: l' → ¬ (u = t ∧ t.2 = true ∧ p % 2 ^ (t.1 + 1) = 0)) ∧ Apart (p + 2 ^ t.1) l
theorem apart_append {p : Nat} {a b : List Tl} (h : Apart p (a ++ b)) : Apart p a ∧ Apart (p + span a) b := by
  induction a generalizing p with
  | nil => exact ⟨trivial, by simpa [span] using h⟩
  | cons t a ih =>
    obtain ⟨h1, h2⟩ := h
    obtain ⟨h3, h4⟩ := ih h2
    refine ⟨⟨fun u l' e => h1 u (l' ++ b) (by rw [e]; rfl), h3⟩, ?_⟩
    simp only [span]
    rwa [show p + (2 ^ t.1 + span a) = p + 2 ^ t.1 + span a by omega]
/-- a seam: the last tile ahead of it and the first behind it are no free buddies -/
theorem apart_join {p : Nat} {a b : List Tl} (ha : Apart p a) (hb : Apart (p + span a) b) (hs : ∀ a' t b', a = a' ++ [t] → b = t :: b' → t.2 = true → (p + span a') % 2 ^ (t.1 + 1) ≠ 0) : Apart p (a ++ b) := by
  induction a generalizing p with
  | nil => simpa [span] using hb
  | cons t a ih =>
    obtain ⟨h1, h2⟩ := ha
    refine ⟨fun u l' e => ?_, ih h2 (by simp only [span] at hb; rwa [show p + 2 ^ t.1 + span a = p + (2 ^ t.1 + span a) by omega]) (fun a' u b' e1 e2 e3 => ?_)⟩
    · cases a with
      | nil =>
        rintro ⟨rfl, h3, h4⟩
        exact hs [] u l' rfl (by simpa using e) h3 (by simpa [span] using h4)
      | cons v a =>
        injection e with e1 e2
        exact h1 u a (by rw [e1])
    · have := hs (t :: a') u b' (by rw [e1]; rfl) e2 e3
      simp only [span] at this
      rwa [show p + 2 ^ t.1 + span a' = p + (2 ^ t.1 + span a') by omega]
structure Good (top : Nat) (l : List Tl) : Prop where
  all : span l = 2 ^ top
  lies : Lies 0 l
  apart : Apart 0 l
  le : ∀ t ∈ l, t.1 ≤ top
theorem pow_dvd_mod {p a b : Nat} (h : a ≤ b) (hp : p % 2 ^ b = 0) : p % 2 ^ a = 0 := by
  have d : 2 ^ a ∣ 2 ^ b := Nat.pow_dvd_pow 2 h
  exact Nat.mod_eq_zero_of_dvd (Nat.dvd_trans d (Nat.dvd_of_mod_eq_zero hp))
end Go.Proofs.YtbadoihpbemjjaaDoor
