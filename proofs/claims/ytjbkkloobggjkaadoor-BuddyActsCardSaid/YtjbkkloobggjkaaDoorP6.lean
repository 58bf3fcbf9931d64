/- The reference's Take, Give, Order, Left over lists. No condition. -/
import Derived.Test.YtjbkkloobggjkaaDoorP5
namespace Go.Proofs.YtjbkkloobggjkaaDoor

/-- the place of the first block of the least order that is no less than one, of so many -/
def BestP (L : List (Nat × Nat)) (q n : Nat) (r : Int) : Prop := (r = -1 ∧ ∀ j (hj : j < L.length), j < n → L[j].2 < q) ∨ ∃ (i : Nat) (hi : i < L.length), i < n ∧ r = (i : Int) ∧ q ≤ L[i].2 ∧ ∀ j (hj : j < L.length), j < n → q ≤ L[j].2 → L[i].2 ≤ L[j].2 ∧ (j < i → L[i].2 < L[j].2)
theorem bestP_zero (L : List (Nat × Nat)) (q : Nat) : BestP L q 0 (-1) := .inl ⟨rfl, fun _ _ h => absurd h (Nat.not_lt_zero _)⟩
theorem bestP_small {L : List (Nat × Nat)} {q n : Nat} {r : Int} (h : BestP L q n r) (hn : n < L.length) (hq : L[n].2 < q) : BestP L q (n + 1) r := by
  rcases h with ⟨h1, h2⟩ | ⟨i, hi, h1, h2, h3, h4⟩
  · refine .inl ⟨h1, fun j hj hjn => ?_⟩
    by_cases e : j = n
    · subst e; exact hq
    · exact h2 j hj (by omega)
  · refine .inr ⟨i, hi, by omega, h2, h3, fun j hj hjn hqj => ?_⟩
    by_cases e : j = n
    · subst e; omega
    · exact h4 j hj (by omega) hqj
theorem bestP_first {L : List (Nat × Nat)} {q n : Nat} {r : Int} (h : BestP L q n r) (hr : r < 0) (hn : n < L.length) (hq : q ≤ L[n].2) : BestP L q (n + 1) (n : Int) := by
  rcases h with ⟨h1, h2⟩ | ⟨i, hi, h1, h2, _⟩
  · refine .inr ⟨n, hn, by omega, rfl, hq, fun j hj hjn hqj => ?_⟩
    by_cases e : j = n
    · subst e; exact ⟨Nat.le_refl _, fun q => absurd q (Nat.lt_irrefl _)⟩
    · have := h2 j hj (by omega)
      omega
  · omega
theorem bestP_less {L : List (Nat × Nat)} {q n i : Nat} (h : BestP L q n (i : Int)) (hi : i < L.length) (hn : n < L.length) (hq : q ≤ L[n].2) (hl : L[n].2 < L[i].2) : BestP L q (n + 1) (n : Int) := by
  rcases h with ⟨h1, h2⟩ | ⟨i', hi', h1, h2, h3, h4⟩
  · omega
  · obtain rfl : i = i' := by omega
    refine .inr ⟨n, hn, by omega, rfl, hq, fun j hj hjn hqj => ?_⟩
    by_cases e : j = n
    · subst e; exact ⟨Nat.le_refl _, fun q => absurd q (Nat.lt_irrefl _)⟩
    · have := h4 j hj (by omega) hqj
      omega
theorem bestP_more {L : List (Nat × Nat)} {q n i : Nat} (h : BestP L q n (i : Int)) (hi : i < L.length) (hn : n < L.length) (hl : ¬ L[n].2 < L[i].2) : BestP L q (n + 1) (i : Int) := by
  rcases h with ⟨h1, h2⟩ | ⟨i', hi', h1, h2, h3, h4⟩
  · omega
  · obtain rfl : i = i' := by omega
    refine .inr ⟨i, hi, by omega, rfl, h3, fun j hj hjn hqj => ?_⟩
    by_cases e : j = n
    · subst e; omega
    · exact h4 j hj (by omega) hqj
/-- where a free block stands among the tiles -/
theorem bestP_split {l : List Tl} {q n i : Nat} (h : BestP (blks true 0 l) q n (i : Int)) (hn : n = (blks true 0 l).length) (hi : i < (blks true 0 l).length) : ∃ k a c, l = a ++ (k, true) :: c ∧ q ≤ k ∧ (blks true 0 l)[i] = (span a, k) ∧ (∀ x ∈ blks true 0 l, q ≤ x.2 → k ≤ x.2) ∧ (∀ x ∈ blks true 0 l, x.2 = k → span a ≤ x.1) := by
  rcases h with ⟨h1, h2⟩ | ⟨i', hi', h1, h2, h3, h4⟩
  · omega
  · obtain rfl : i = i' := by omega
    obtain ⟨a, c, e1, e2⟩ := blks_mem (List.getElem_mem hi)
    rw [Nat.zero_add] at e2
    refine ⟨(blks true 0 l)[i].2, a, c, e1, h3, by rw [← e2], fun x hx hq => ?_, fun x hx hk => ?_⟩
    · obtain ⟨j, hj, rfl⟩ := List.getElem_of_mem hx
      exact (h4 j hj (by omega) hq).1
    · obtain ⟨j, hj, rfl⟩ := List.getElem_of_mem hx
      have := (h4 j hj (by omega) (by omega)).2
      rw [← e2]
      rcases Nat.lt_trichotomy i j with r | r | r
      · exact Nat.le_of_lt ((blks_rise true 0 l).at hi hj r)
      · subst r; exact Nat.le_refl _
      · have := this r
        omega
theorem bestP_none {l : List Tl} {q n : Nat} (h : BestP (blks true 0 l) q n (-1)) (hn : n = (blks true 0 l).length) : ∀ x ∈ blks true 0 l, x.2 < q := fun x hx => by
  rcases h with ⟨h1, h2⟩ | ⟨i', hi', h1, h2, _⟩
  · obtain ⟨j, hj, rfl⟩ := List.getElem_of_mem hx
    exact h2 j hj (by omega)
  · omega
end Go.Proofs.YtjbkkloobggjkaaDoor
