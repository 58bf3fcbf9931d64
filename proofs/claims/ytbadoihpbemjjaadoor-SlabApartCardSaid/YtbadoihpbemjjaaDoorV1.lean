/- The plain law of taking alone: the places. No condition. -/
import Derived.Test.YtbadoihpbemjjaaDoorV0
namespace Go.Proofs.YtbadoihpbemjjaaDoor

theorem div_is {M d x : Nat} (h0 : 0 < M) (h1 : M * d ≤ x) (h2 : x < M * d + M) : x / M = d := by
  rw [show x = (x - M * d) + M * d by omega, Nat.add_mul_div_left _ _ h0, Nat.div_eq_of_lt (by omega)]
  omega
/-- the place of a taking -/
def atC (M size t : Nat) : Int := ((1024 * (t / M) + 64 + t % M * size : Nat) : Int)
/-- behind so many takings -/
structure TK (M t : Nat) (P : List Pg) : Prop where
  len : P.length = (t + M - 1) / M
  q : ∀ k (h : k < P.length), P[k].q = k
  bit : ∀ k (h : k < P.length) i, i < M → bitW P[k].ws i = decide (M * k + i < t)
theorem tk_start (M : Nat) (h : 0 < M) : TK M 0 [] := ⟨by rw [Nat.zero_add, Nat.div_eq_of_lt (by omega)]; rfl, fun k h => absurd h (Nat.not_lt_zero _), fun k h => absurd h (Nat.not_lt_zero _)⟩
theorem filter_lt (a t : Nat) : ∀ M, (List.range M).filter (fun i => decide (a + i < t)) = List.range (min M (t - a))
  | 0 => by simp
  | M + 1 => by
    rw [List.range_succ, List.filter_append, filter_lt a t M]
    by_cases h : a + M < t
    · rw [show min (M + 1) (t - a) = min M (t - a) + 1 by omega, List.range_succ, show min M (t - a) = M by omega]
      simp [h]
    · rw [show min (M + 1) (t - a) = min M (t - a) by omega]
      simp [h]
theorem tk_used {M t size : Nat} {P : List Pg} (hM : 0 < M) (h : TK M t P) : usedC M size P = (List.range t).map (atC M size) := by
  have key : ∀ k, k ≤ P.length → usedC M size (P.take k) = (List.range (min (M * k) t)).map (atC M size) := by
    intro k
    induction k with
    | zero => intro _; simp [usedC]
    | succ k ih =>
      intro hk
      have hkl : k < P.length := by omega
      rw [usedC_take M size P k hkl, ih (by omega)]
      have e : usedB size P[k] M = (List.range (min M (t - M * k))).map fun i => atC M size (M * k + i) := by
        unfold usedB
        rw [← filter_lt]
        have e2 : (List.range M).filter (fun i => bitW P[k].ws i) = (List.range M).filter (fun i => decide (M * k + i < t)) := List.filter_congr fun i hi => h.bit k hkl i (List.mem_range.1 hi)
        rw [e2]
        refine List.map_congr_left fun i hi => ?_
        have hi2 : i < M := List.mem_range.1 (List.mem_filter.1 hi).1
        unfold atC
        rw [h.q k hkl, div_is hM (by omega) (by omega) (d := k), Nat.mul_add_mod, Nat.mod_eq_of_lt hi2]
      rw [e]
      have e3 : min (M * (k + 1)) t = min (M * k) t + min M (t - M * k) := by rw [Nat.mul_add, Nat.mul_one]; omega
      rw [e3, List.range_add, List.map_append, List.map_map]
      congr 1
      by_cases q : M * k ≤ t
      · rw [show min (M * k) t = M * k by omega]
        rfl
      · rw [show min M (t - M * k) = 0 by omega]
        rfl
  have h1 := key P.length (Nat.le_refl _)
  rw [List.take_length] at h1
  rw [h1]
  have h2 : t ≤ M * P.length := by
    rw [h.len]
    have := Nat.div_add_mod (t + M - 1) M
    have := Nat.mod_lt (t + M - 1) hM
    omega
  rw [show min (M * P.length) t = t by omega]
theorem tk_len {M t d r : Nat} (hM : 0 < M) (ht : t = M * d + r) (hr : r < M) : (t + M - 1) / M = if r = 0 then d else d + 1 := by
  by_cases q : r = 0
  · rw [if_pos q]
    exact div_is hM (by omega) (by omega)
  · rw [if_neg q]
    exact div_is hM (by rw [Nat.mul_add, Nat.mul_one]; omega) (by rw [Nat.mul_add, Nat.mul_one]; omega)
theorem tk_new {M t d : Nat} {P : List Pg} (hM : 0 < M) (h : TK M t P) (ht : t = M * d) : P.length = d ∧ (∀ x ∈ P, FullP M x) ∧ (∀ x ∈ P, x.q < d) ∧ ∀ p : Pg, p.q = d → p.ws = freshW M → TK M (t + 1) (P ++ [p]) := by
  have hl : P.length = d := by
    rw [h.len, tk_len hM (r := 0) (by omega) hM, if_pos rfl]
  refine ⟨hl, fun x hx i hi => ?_, fun x hx => ?_, fun p hp hw => ⟨?_, fun k hk => ?_, fun k hk i hi => ?_⟩⟩
  · obtain ⟨k, hk, rfl⟩ := List.getElem_of_mem hx
    rw [h.bit k hk i hi]
    have : M * (k + 1) ≤ M * d := Nat.mul_le_mul_left _ (by omega)
    rw [Nat.mul_add, Nat.mul_one] at this
    exact decide_eq_true (by omega)
  · obtain ⟨k, hk, rfl⟩ := List.getElem_of_mem hx
    rw [h.q k hk]
    omega
  · rw [List.length_append, hl]
    exact (div_is hM (by rw [List.length_singleton, Nat.mul_add, Nat.mul_one]; omega) (by rw [List.length_singleton, Nat.mul_add, Nat.mul_one]; omega)).symm
  · by_cases q : k < P.length
    · rw [List.getElem_append_left q]; exact h.q k q
    · have e : k = P.length := by rw [List.length_append, List.length_singleton] at hk; omega
      subst e
      rw [List.getElem_append_right (Nat.le_refl _)]
      simp only [Nat.sub_self, List.getElem_singleton]
      omega
  · by_cases q : k < P.length
    · rw [List.getElem_append_left q, h.bit k q i hi]
      have : M * (k + 1) ≤ M * d := Nat.mul_le_mul_left _ (by omega)
      rw [Nat.mul_add, Nat.mul_one] at this
      rw [decide_eq_true (by omega), decide_eq_true (by omega)]
    · have e : k = P.length := by rw [List.length_append, List.length_singleton] at hk; omega
      subst e
      rw [List.getElem_append_right (Nat.le_refl _)]
      simp only [Nat.sub_self, List.getElem_singleton]
      rw [hw, freshW, bitW_setL i [0] (WF_new M), bitW_new, hl, ht]
      by_cases q0 : i = 0
      · subst q0
        rw [if_pos ⟨by simp, hM⟩, decide_eq_true (by omega)]
      · rw [if_neg (fun hc => q0 (by have := List.mem_singleton.1 hc.1; omega)), decide_eq_false (by omega)]
theorem tk_old {M t d r : Nat} {P : List Pg} (hM : 0 < M) (h : TK M t P) (hw : ∀ p ∈ P, WF M p.ws) (ht : t = M * d + r) (hr : r < M) (hr0 : r ≠ 0) : ∃ P1 p, P = P1 ++ [p] ∧ p.q = d ∧ (∀ x ∈ P1, FullP M x) ∧ FirstS false M p.ws 0 (r : Int) ∧ TK M (t + 1) (P1 ++ [{ p with ws := setL true M p.ws [(r : Int)] }]) := by
  have hl : P.length = d + 1 := by rw [h.len, tk_len hM ht hr, if_neg hr0]
  have hne : P ≠ [] := fun e => by rw [e] at hl; simp at hl
  obtain ⟨P1, p, rfl⟩ : ∃ P1 p, P = P1 ++ [p] := ⟨P.dropLast, P.getLast hne, (List.dropLast_concat_getLast hne).symm⟩
  have hl1 : P1.length = d := by rw [List.length_append, List.length_singleton] at hl; omega
  have hp : (P1 ++ [p])[d]'(by omega) = p := by
    rw [List.getElem_append_right (by omega)]
    simp [hl1]
  have hb : ∀ i, i < M → bitW p.ws i = decide (i < r) := fun i hi => by
    have := h.bit d (by omega) i hi
    rw [hp] at this
    rw [this, ht]
    congr 1
    exact propext ⟨fun h => by omega, fun h => by omega⟩
  refine ⟨P1, p, rfl, ?_, fun x hx i hi => ?_, .inr ⟨r, rfl, Nat.zero_le _, hr, by rw [hb r hr]; exact decide_eq_false (by omega), fun i _ hi => by rw [hb i (by omega), decide_eq_true hi]; decide⟩, ⟨?_, fun k hk => ?_, fun k hk i hi => ?_⟩⟩
  · have := h.q d (by omega)
    rw [hp] at this
    exact this
  · obtain ⟨k, hk, rfl⟩ := List.getElem_of_mem hx
    have := h.bit k (by rw [List.length_append]; omega) i hi
    rw [List.getElem_append_left hk] at this
    rw [this]
    have : M * (k + 1) ≤ M * d := Nat.mul_le_mul_left _ (by omega)
    rw [Nat.mul_add, Nat.mul_one] at this
    exact decide_eq_true (by omega)
  · rw [List.length_append, hl1, List.length_singleton]
    exact (div_is hM (by rw [Nat.mul_add, Nat.mul_one]; omega) (by rw [Nat.mul_add, Nat.mul_one]; omega)).symm
  · by_cases q : k < P1.length
    · rw [List.getElem_append_left q]
      have := h.q k (by rw [List.length_append]; omega)
      rw [List.getElem_append_left q] at this
      exact this
    · have e : k = P1.length := by rw [List.length_append, List.length_singleton] at hk; omega
      subst e
      rw [List.getElem_append_right (Nat.le_refl _)]
      simp only [Nat.sub_self, List.getElem_singleton]
      have := h.q P1.length (by rw [List.length_append, List.length_singleton]; omega)
      rw [List.getElem_append_right (Nat.le_refl _)] at this
      simpa using this
  · by_cases q : k < P1.length
    · rw [List.getElem_append_left q]
      have := h.bit k (by rw [List.length_append]; omega) i hi
      rw [List.getElem_append_left q] at this
      rw [this]
      have : M * (k + 1) ≤ M * d := Nat.mul_le_mul_left _ (by omega)
      rw [Nat.mul_add, Nat.mul_one] at this
      rw [decide_eq_true (by omega), decide_eq_true (by omega)]
    · have e : k = P1.length := by rw [List.length_append, List.length_singleton] at hk; omega
      subst e
      rw [List.getElem_append_right (Nat.le_refl _)]
      simp only [Nat.sub_self, List.getElem_singleton]
      rw [bitW_setL i _ (hw p (by simp)), hb i hi, hl1, ht]
      by_cases q0 : i = r
      · subst q0
        rw [if_pos ⟨by simp, hi⟩, decide_eq_true (by omega)]
      · rw [if_neg (fun hc => q0 (by have := List.mem_singleton.1 hc.1; omega))]
        congr 1
        exact propext ⟨fun h => by omega, fun h => by omega⟩
theorem atC_inj {M size s t : Nat} (hM : M = 960 / size) (hs : 0 < size) (h0 : 0 < M) (h : atC M size s = atC M size t) : s = t := by
  unfold atC at h
  have h1 := place_mod (q := s / M) hM hs (Nat.mod_lt s h0)
  have h2 := place_mod (q := t / M) hM hs (Nat.mod_lt t h0)
  have e : 1024 * (s / M) + 64 + s % M * size = 1024 * (t / M) + 64 + t % M * size := by omega
  rw [e] at h1
  have e1 : s / M = t / M := h1.1.symm.trans h2.1
  have e3 : 64 + s % M * size = 64 + t % M * size := h1.2.1.symm.trans h2.2.1
  have e2 : s % M = t % M := by
    have := h1.2.2.2
    rw [e3] at this
    exact this.symm.trans h2.2.2.2
  rw [← Nat.div_add_mod s M, ← Nat.div_add_mod t M, e1, e2]
end Go.Proofs.YtbadoihpbemjjaaDoor
