/- The contract of Free. Condition: the allocator's state is held, its tiles lie as they may. -/
import Derived.Test.YtbadoihpbemjjaaDoorB7
namespace Go.Proofs.YtbadoihpbemjjaaDoor
open Go.RowKit Go.Maps
variable {W w : World} {S : List (Option Addr × List Value)} {b top : Nat} {gm gw : Nat → Nat} {mu n : Nat} {F : Nat → Nat → Bool} {U : Int → Option Nat}

/-- the free blocks found so far: of the orders below k, and of the order k below the place f -/
structure Got (F : Nat → Nat → Bool) (top k f : Nat) (L : List (Nat × Nat)) : Prop where
  nodup : L.Nodup
  mem : ∀ x, x ∈ L ↔ ∃ i, x.1 = i * 2 ^ x.2 ∧ x.2 ≤ top ∧ i < 2 ^ (top - x.2) ∧ F x.2 i = true ∧ (x.2 < k ∨ x.2 = k ∧ i < f)
  len : L.length ≤ k * 1048576 + f
theorem Got.start (F : Nat → Nat → Bool) (top : Nat) : Got F top 0 0 [] := ⟨List.nodup_nil, fun x => ⟨fun h => absurd h List.not_mem_nil, fun ⟨i, _, _, _, _, h⟩ => by omega⟩, by simp⟩
theorem Got.next {F : Nat → Nat → Bool} {top k f : Nat} {L : List (Nat × Nat)} (h : Got F top k f L) (hk : k ≤ top) (h20 : top ≤ 20) (hf : f ≤ 2 ^ (top - k)) (hn : ∀ i, f ≤ i → i < 2 ^ (top - k) → F k i = false) : Got F top (k + 1) 0 L := by
  refine ⟨h.nodup, fun x => ?_, ?_⟩
  · rw [h.mem]
    constructor
    · rintro ⟨i, h1, h2, h3, h4, h5⟩
      exact ⟨i, h1, h2, h3, h4, by omega⟩
    · rintro ⟨i, h1, h2, h3, h4, h5⟩
      refine ⟨i, h1, h2, h3, h4, ?_⟩
      by_cases e : x.2 = k
      · right
        refine ⟨e, ?_⟩
        by_cases q : i < f
        · exact q
        · rw [e] at h3 h4
          rw [hn i (by omega) h3] at h4
          cases h4
      · left; omega
  · have h1 := h.len
    have h2 : 2 ^ (top - k) ≤ 2 ^ 20 := Nat.pow_le_pow_right (by decide) (by omega)
    have h3 : (2 : Nat) ^ 20 = 1048576 := by decide
    rw [h3] at h2
    rw [Nat.add_mul, Nat.one_mul, Nat.add_zero]
    clear h3 hn
    omega
theorem Got.add {F : Nat → Nat → Bool} {top k f i : Nat} {L : List (Nat × Nat)} (h : Got F top k f L) (hk : k ≤ top) (hfi : f ≤ i) (hi : i < 2 ^ (top - k)) (hb : F k i = true) (hn : ∀ j, f ≤ j → j < i → F k j = false) : Got F top k (i + 1) (L ++ [(i * 2 ^ k, k)]) := by
  refine ⟨?_, fun x => ?_, ?_⟩
  · refine List.nodup_append.2 ⟨h.nodup, by simp, fun x hx y hy => ?_⟩
    rw [List.mem_singleton] at hy
    subst hy
    rintro rfl
    obtain ⟨j, h1, _, _, _, h5⟩ := (h.mem _).1 hx
    have := place_inj (k := k) h1
    omega
  · rw [List.mem_append, List.mem_singleton, h.mem]
    constructor
    · rintro (⟨j, h1, h2, h3, h4, h5⟩ | rfl)
      · exact ⟨j, h1, h2, h3, h4, by omega⟩
      · exact ⟨i, rfl, hk, hi, hb, .inr ⟨rfl, Nat.lt_succ_self _⟩⟩
    · rintro ⟨j, h1, h2, h3, h4, h5⟩
      by_cases e : x.2 = k
      · by_cases q : j < f
        · exact .inl ⟨j, h1, h2, h3, h4, .inr ⟨e, q⟩⟩
        · right
          have e2 : j = i := by
            by_cases q2 : j < i
            · rw [e] at h4
              rw [hn j (by omega) q2] at h4; cases h4
            · omega
          obtain ⟨x1, x2⟩ := x
          simp only at h1 e
          rw [h1, e, e2]
      · exact .inl ⟨j, h1, h2, h3, h4, by omega⟩
  · have := h.len
    simp only [List.length_append, List.length_cons, List.length_nil]
    omega
theorem Got.done {F : Nat → Nat → Bool} {top : Nat} {L : List (Nat × Nat)} {l : List Tl} (h : Got F top (top + 1) 0 L) (hg : Good top l) (hF : FRel F top l) : (∀ x, x ∈ L ↔ x ∈ blks true 0 l) ∧ L.Pairwise (fun x y => x.1 ≠ y.1) := by
  have hm : ∀ x, x ∈ L ↔ x ∈ blks true 0 l := fun x => by
    rw [h.mem]
    constructor
    · rintro ⟨i, h1, h2, h3, h4, _⟩
      have := (hF x.2 i h2 h3).1 h4
      rw [← h1] at this
      exact this
    · intro hx
      obtain ⟨a, c, rfl, hp⟩ := blks_mem hx
      simp only [Nat.zero_add] at hp
      have hle := hg.le (x.2, true) (by simp)
      have hl := (lies_append.1 hg.lies).2.1
      simp only [Nat.zero_add] at hl
      have hM := Mid.of_good hg
      have hpl := hM.place
      rw [span_rev] at hpl
      refine ⟨span a / 2 ^ x.2, by rw [hpl.1, hp], hle, hpl.2, ?_, .inl (by simp only at hle; omega)⟩
      refine (hF x.2 _ hle hpl.2).2 ?_
      rw [hpl.1, ← hp]
      exact hx
  refine ⟨hm, ?_⟩
  have hr := blks_rise true 0 l
  refine (List.pairwise_iff_getElem.2 fun i j hi hj hij => ?_)
  have hne : L[i] ≠ L[j] := List.pairwise_iff_getElem.1 h.nodup i j hi hj hij
  have h1 := (hm L[i]).1 (List.getElem_mem hi)
  have h2 := (hm L[j]).1 (List.getElem_mem hj)
  intro e
  obtain ⟨a, c, e1, hp1⟩ := blks_mem h1
  obtain ⟨a', c', e2, hp2⟩ := blks_mem h2
  rw [e1] at e2
  obtain ⟨_, e3, _⟩ := tile_one e2 (by omega)
  injection e3 with e4 _
  exact hne (Prod.ext e e4)
end Go.Proofs.YtbadoihpbemjjaaDoor
