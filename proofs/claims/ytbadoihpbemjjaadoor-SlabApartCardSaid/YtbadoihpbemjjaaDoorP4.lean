/- Taking, giving back and asking are functions of the tiles. No condition. -/
import Derived.Test.YtbadoihpbemjjaaDoorP3
namespace Go.Proofs.YtbadoihpbemjjaaDoor

/-- what Take answers, and the tiles behind it -/
def TakeR (top : Nat) (l : List Tl) (o at_ er : Int) (l' : List Tl) : Prop :=
  ((o < 0 ∨ (top : Int) < o) ∧ at_ = 0 ∧ er = 1 ∧ l' = l) ∨
  ∃ q : Nat, o = (q : Int) ∧ q ≤ top ∧ (((∀ x ∈ blks true 0 l, x.2 < q) ∧ at_ = 0 ∧ er = 4 ∧ l' = l) ∨
    ∃ k a c, l = a ++ (k, true) :: c ∧ q ≤ k ∧ (∀ x ∈ blks true 0 l, q ≤ x.2 → k ≤ x.2) ∧ (∀ x ∈ blks true 0 l, x.2 = k → span a ≤ x.1) ∧ at_ = ((1024 * span a : Nat) : Int) ∧ er = 0 ∧ l' = takeT q k a c)
/-- what Give answers, and the tiles behind it -/
def GiveR (top : Nat) (l : List Tl) (x er : Int) (l' : List Tl) : Prop :=
  ((∀ p k : Nat, x = 1024 * (p : Int) → (p, k) ∉ blks false 0 l) ∧ er = 6 ∧ l' = l) ∨
  ∃ k a c, l = a ++ (k, false) :: c ∧ x = 1024 * ((span a : Nat) : Int) ∧ er = 0 ∧ l' = melt (top - k) a.reverse k c
/-- the tiles ahead of the first free one of an order, and those behind it -/
def splitC (k : Nat) : List Tl → List Tl × List Tl
  | [] => ([], [])
  | t :: l => if t = (k, true) then ([], l) else (t :: (splitC k l).1, (splitC k l).2)
theorem splitC_spec {k : Nat} : ∀ {l : List Tl}, (k, true) ∈ l → l = (splitC k l).1 ++ (k, true) :: (splitC k l).2 ∧ (k, true) ∉ (splitC k l).1
  | [], h => absurd h List.not_mem_nil
  | t :: l, h => by
    by_cases e : t = (k, true)
    · subst e
      simp [splitC]
    · have hm : (k, true) ∈ l := by
        rcases List.mem_cons.1 h with q | q
        · exact absurd q.symm e
        · exact q
      obtain ⟨h1, h2⟩ := splitC_spec hm
      simp only [splitC, if_neg e]
      refine ⟨by rw [List.cons_append, ← h1], fun hc => ?_⟩
      rcases List.mem_cons.1 hc with q | q
      · exact e q.symm
      · exact h2 q
def takeC (top : Nat) (l : List Tl) (o : Int) : Int × Int × List Tl :=
  if o < 0 ∨ (top : Int) < o then (0, 1, l) else
  match best o.toNat l with
  | none => (0, 4, l)
  | some k => (((1024 * span (splitC k l).1 : Nat) : Int), 0, takeT o.toNat k (splitC k l).1 (splitC k l).2)
theorem free_mem {l : List Tl} {k : Nat} (h : (k, true) ∈ l) : ∃ p, (p, k) ∈ blks true 0 l := by
  obtain ⟨a, c, rfl⟩ := List.append_of_mem h
  exact ⟨_, blks_at true 0 a c k⟩
theorem TakeR.eq {top : Nat} {l l' : List Tl} {o at_ er : Int} (h : TakeR top l o at_ er l') : takeC top l o = (at_, er, l') := by
  unfold takeC
  rcases h with ⟨h, rfl, rfl, rfl⟩ | ⟨q, rfl, hq, ⟨h, rfl, rfl, rfl⟩ | ⟨k, a, c, rfl, h1, h2, h3, rfl, rfl, rfl⟩⟩
  · rw [if_pos h]
  · rw [if_neg (by omega)]
    cases hb : best (q : Int).toNat l' with
    | none => rfl
    | some k =>
      obtain ⟨b1, b2, _⟩ := best_some hb
      obtain ⟨p, hp⟩ := free_mem b2
      have := h _ hp
      simp only [Int.toNat_natCast] at b1
      simp only at this
      omega
  · rw [if_neg (by omega)]
    rw [Int.toNat_natCast]
    cases hb : best q (a ++ (k, true) :: c) with
    | none =>
      have := best_none hb (k, true) (by simp) rfl
      simp only at this
      omega
    | some k' =>
      obtain ⟨b1, b2, b3⟩ := best_some hb
      have e : k' = k := by
        have := b3 (k, true) (by simp) rfl h1
        obtain ⟨p, hp⟩ := free_mem b2
        have := h2 _ hp b1
        simp only at *
        omega
      subst e
      obtain ⟨s1, s2⟩ := splitC_spec (k := k') (l := a ++ (k', true) :: c) (by simp)
      show (((1024 * span (splitC k' (a ++ (k', true) :: c)).1 : Nat) : Int), (0 : Int), takeT q k' (splitC k' (a ++ (k', true) :: c)).1 (splitC k' (a ++ (k', true) :: c)).2) = _
      generalize splitC k' (a ++ (k', true) :: c) = s at s1 s2 ⊢
      obtain ⟨a', c'⟩ := s
      simp only at s1 s2 ⊢
      have m1 : (span a', k') ∈ blks true 0 (a ++ (k', true) :: c) := by
        rw [s1]
        have := blks_at true 0 a' c' k'
        rwa [Nat.zero_add] at this
      have le1 := h3 _ m1 rfl
      simp only at le1
      have e2 : span a = span a' := by
        by_cases q2 : span a = span a'
        · exact q2
        · exfalso
          have m2 : (span a, k') ∈ blks true 0 (a' ++ (k', true) :: c') := by
            rw [← s1]
            have := blks_at true 0 a c k'
            rwa [Nat.zero_add] at this
          rw [blks_same] at m2
          rcases List.mem_append.1 m2 with m2 | m2
          · obtain ⟨x, y, e3, _⟩ := blks_mem m2
            apply s2
            rw [e3]
            simp
          · rcases List.mem_cons.1 m2 with m2 | m2
            · injection m2 with m2 _
              exact q2 m2
            · have := (blks_lt m2).1
              simp only at this
              have := two_pos k'
              omega
      obtain ⟨e3, _, e4⟩ := tile_one s1 e2
      rw [← e3, ← e4]
/-- the used tile at an address -/
def findC : Nat → List Tl → Nat → Option (List Tl × Nat × List Tl)
  | _, [], _ => none
  | p, t :: l, y => if p = y then (if t.2 = false then some ([], t.1, l) else none) else (findC (p + 2 ^ t.1) l y).map fun r => (t :: r.1, r.2)
theorem findC_some : ∀ {p : Nat} {l a c : List Tl} {k y : Nat}, findC p l y = some (a, k, c) → l = a ++ (k, false) :: c ∧ y = p + span a
  | p, [], _, _, _, _, h => by cases h
  | p, t :: l, a, c, k, y, h => by
    unfold findC at h
    split at h
    · split at h
      · rename_i e1 e2
        simp only [Option.some.injEq, Prod.mk.injEq] at h
        obtain ⟨rfl, rfl, rfl⟩ := h
        exact ⟨by rw [← e2]; rfl, by simp [span, e1]⟩
      · cases h
    · rw [Option.map_eq_some_iff] at h
      obtain ⟨⟨a', k', c'⟩, h1, h2⟩ := h
      simp only [Prod.mk.injEq] at h2
      obtain ⟨rfl, rfl, rfl⟩ := h2
      obtain ⟨h3, h4⟩ := findC_some h1
      exact ⟨by rw [h3]; rfl, by rw [h4]; simp only [span]; omega⟩
theorem findC_at : ∀ (p : Nat) (a c : List Tl) (k : Nat), findC p (a ++ (k, false) :: c) (p + span a) = some (a, k, c)
  | p, [], c, k => by simp [findC, span]
  | p, t :: a, c, k => by
    have := two_pos t.1
    simp only [List.cons_append, findC, span]
    rw [if_neg (by omega), show p + (2 ^ t.1 + span a) = p + 2 ^ t.1 + span a by omega, findC_at (p + 2 ^ t.1) a c k]
    rfl
def giveC (top : Nat) (l : List Tl) (x : Int) : Int × List Tl :=
  if 0 ≤ x ∧ x % 1024 = 0 then
    match findC 0 l (x / 1024).toNat with
    | none => (6, l)
    | some (a, k, c) => (0, melt (top - k) a.reverse k c)
  else (6, l)
theorem GiveR.eq {top : Nat} {l l' : List Tl} {x er : Int} (h : GiveR top l x er l') : giveC top l x = (er, l') := by
  unfold giveC
  rcases h with ⟨h, rfl, rfl⟩ | ⟨k, a, c, rfl, rfl, rfl, rfl⟩
  · split
    · rename_i hx
      cases hf : findC 0 l' (x / 1024).toNat with
      | none => rfl
      | some r =>
        obtain ⟨a, k, c⟩ := r
        obtain ⟨h1, h2⟩ := findC_some hf
        exfalso
        refine h (x / 1024).toNat k (by omega) ?_
        rw [h2, h1]
        exact blks_at false 0 a c k
    · rfl
  · rw [if_pos (by omega)]
    have e : (1024 * ((span a : Nat) : Int) / 1024).toNat = 0 + span a := by omega
    rw [e, findC_at]
def orderC (l : List Tl) (x : Int) : Int :=
  if 0 ≤ x ∧ x % 1024 = 0 then
    match findC 0 l (x / 1024).toNat with
    | none => -1
    | some (_, k, _) => (k : Int)
  else -1
theorem orderC_eq {l : List Tl} {x r : Int} (h : (∃ p k : Nat, x = 1024 * (p : Int) ∧ (p, k) ∈ blks false 0 l ∧ r = (k : Int)) ∨ (∀ p k : Nat, x = 1024 * (p : Int) → (p, k) ∉ blks false 0 l) ∧ r = -1) : orderC l x = r := by
  unfold orderC
  rcases h with ⟨p, k, rfl, hm, rfl⟩ | ⟨h, rfl⟩
  · rw [if_pos (by omega)]
    obtain ⟨a, c, rfl, hp⟩ := blks_mem hm
    simp only at hp
    have e : (1024 * (p : Int) / 1024).toNat = 0 + span a := by omega
    rw [e, findC_at]
  · split
    · cases hf : findC 0 l (x / 1024).toNat with
      | none => rfl
      | some y =>
        obtain ⟨a, k, c⟩ := y
        obtain ⟨h1, h2⟩ := findC_some hf
        exfalso
        refine h (x / 1024).toNat k (by omega) ?_
        rw [h2, h1]
        exact blks_at false 0 a c k
    · rfl
end Go.Proofs.YtbadoihpbemjjaaDoor
