/- The plain law of taking alone: pages in a row, places in a row. No condition. And what follows from it. -/
import Derived.Test.YtflkoabgkgegjaaDoorY21
/- The plain law of taking alone: pages in a row, places in a row. No condition. -/
namespace Go.Proofs.YtflkoabgkgegjaaDoor

/-- m used pages, then free tiles of rising orders -/
def TL (m : Nat) (l : List Tl) : Prop := ∃ F : List Tl, l = List.replicate m (0, false) ++ F ∧ (∀ x ∈ F, x.2 = true) ∧ F.Pairwise fun x y => x.1 < y.1
theorem span_rep : ∀ m, span (List.replicate m ((0, false) : Tl)) = m
  | 0 => rfl
  | m + 1 => by
    rw [List.replicate_succ, span, span_rep m]
    show 2 ^ 0 + m = m + 1
    omega
theorem pieces_rise : ∀ n, (pieces 0 n).Pairwise fun x y => x.1 < y.1
  | 0 => List.Pairwise.nil
  | n + 1 => by
    rw [pieces, List.pairwise_append]
    refine ⟨pieces_rise n, List.pairwise_singleton _ _, fun x hx y hy => ?_⟩
    rw [List.mem_singleton.1 hy]
    have := (pieces_free hx).2.2
    omega
theorem tl_start (top : Nat) : TL 0 [(top, true)] := ⟨[(top, true)], rfl, fun x hx => by rw [List.mem_singleton.1 hx], List.pairwise_singleton _ _⟩
theorem tl_take {top m : Nat} {l : List Tl} (h : TL m l) : (takeC top l 0 = (0, 4, l) ∧ (∀ x ∈ l, x.2 = false)) ∨ ∃ l', takeC top l 0 = (((1024 * m : Nat) : Int), 0, l') ∧ TL (m + 1) l' := by
  obtain ⟨F, rfl, h1, h2⟩ := h
  have free : ∀ x ∈ blks true 0 (List.replicate m (0, false) ++ F), ∃ a b, List.replicate m ((0, false) : Tl) ++ F = a ++ (x.2, true) :: b ∧ x.1 = span a ∧ m ≤ a.length ∧ (x.2, true) ∈ F := fun x hx => by
    obtain ⟨a, b, e, hp⟩ := blks_mem hx
    have hm : m ≤ a.length := by
      rcases Nat.lt_or_ge a.length m with q | q
      · have e1 : (List.replicate m ((0, false) : Tl) ++ F)[a.length]? = some (0, false) := by
          rw [List.getElem?_append_left (by simpa using q), List.getElem?_replicate, if_pos q]
        rw [e, List.getElem?_append_right (Nat.le_refl _), Nat.sub_self] at e1
        simp at e1
      · exact q
    refine ⟨a, b, e, by rw [hp, Nat.zero_add], hm, ?_⟩
    have e1 : (List.replicate m ((0, false) : Tl) ++ F)[a.length]? = some (x.2, true) := by
      rw [e, List.getElem?_append_right (Nat.le_refl _), Nat.sub_self]; rfl
    rw [List.getElem?_append_right (by simpa using hm)] at e1
    exact List.mem_of_getElem? e1
  cases F with
  | nil =>
    left
    refine ⟨TakeR.eq (.inr ⟨0, rfl, Nat.zero_le _, .inl ⟨fun x hx => ?_, rfl, rfl, rfl⟩⟩), fun x hx => ?_⟩
    · obtain ⟨_, _, _, _, _, hf⟩ := free x hx
      cases hf
    · rw [List.append_nil] at hx
      rw [(List.mem_replicate.1 hx).2]
  | cons t F =>
    right
    obtain ⟨k, f⟩ := t
    have hf : f = true := h1 (k, f) List.mem_cons_self
    subst hf
    obtain ⟨h3, h4⟩ := List.pairwise_cons.1 h2
    refine ⟨takeT 0 k (List.replicate m (0, false)) F, TakeR.eq (.inr ⟨0, rfl, Nat.zero_le _, .inr ⟨k, List.replicate m (0, false), F, rfl, Nat.zero_le _, fun x hx _ => ?_, fun x hx _ => ?_, by rw [span_rep], rfl, rfl⟩⟩), pieces 0 k ++ F, ?_, fun x hx => ?_, ?_⟩
    · obtain ⟨_, _, _, _, _, hf⟩ := free x hx
      rcases List.mem_cons.1 hf with e | hf
      · injection e with e; omega
      · have := h3 _ hf
        simp only at this
        omega
    · obtain ⟨a, b, e, hp, hm, _⟩ := free x hx
      rw [hp]
      have e2 : a = List.replicate m ((0, false) : Tl) ++ a.drop m := by
        have e3 : (List.replicate m ((0, false) : Tl) ++ (k, true) :: F).take m = (a ++ (x.2, true) :: b).take m := by rw [e]
        rw [List.take_left' (by simp), List.take_append_of_le_length hm] at e3
        rw [e3, List.take_append_drop]
      rw [e2, span_append]
      omega
    · unfold takeT
      rw [Nat.sub_zero, List.replicate_succ', List.append_assoc]
      rfl
    · rcases List.mem_append.1 hx with hx | hx
      · exact (pieces_free hx).1
      · exact h1 x (List.mem_cons_of_mem _ hx)
    · rw [List.pairwise_append]
      refine ⟨pieces_rise k, h4, fun x hx y hy => ?_⟩
      have e1 := (pieces_free hx).2.2
      have e2 := h3 y hy
      simp only at e2
      omega
theorem blks_free {f : Bool} : ∀ {p : Nat} {F : List Tl}, (∀ x ∈ F, x.2 ≠ f) → blks f p F = []
  | _, [], _ => rfl
  | p, t :: F, h => by
    have h1 := h t List.mem_cons_self
    rw [blks, if_neg h1]
    exact blks_free fun x hx => h x (List.mem_cons_of_mem _ hx)
theorem blks_rep (p : Nat) : ∀ m, blks false p (List.replicate m (0, false)) = (List.range m).map fun i => (p + i, 0)
  | 0 => rfl
  | m + 1 => by
    rw [List.replicate_succ', blks_append, blks_rep p m, List.range_succ, List.map_append, span_rep]
    rfl
theorem tl_used {m : Nat} {l : List Tl} (h : TL m l) : blks false 0 l = (List.range m).map fun i => (i, 0) := by
  obtain ⟨F, rfl, h1, _⟩ := h
  rw [blks_append, blks_rep, blks_free (fun x hx => by rw [h1 x hx]; decide), List.append_nil]
  simp
theorem leftB_app (L M : List (Nat × Nat)) : leftB (L ++ M) = leftB L + leftB M := by simp [leftB]
theorem leftB_both : ∀ (p : Nat) (l : List Tl), leftB (blks true p l) + leftB (blks false p l) = 1024 * span l
  | _, [] => rfl
  | p, t :: l => by
    have := leftB_both (p + 2 ^ t.1) l
    simp only [blks, span]
    by_cases h : t.2 = true
    · rw [if_pos h, if_neg (by rw [h]; decide)]
      simp only [leftB, List.map_cons, List.sum_cons] at this ⊢
      omega
    · rw [if_neg h, if_pos (by simpa using h)]
      simp only [leftB, List.map_cons, List.sum_cons] at this ⊢
      omega
theorem tl_left {m top : Nat} {l : List Tl} (h : TL m l) (hg : Good top l) : leftB (blks true 0 l) + 1024 * m = 1024 * 2 ^ top := by
  have h1 := leftB_both 0 l
  rw [hg.all, tl_used h] at h1
  have h2 : leftB ((List.range m).map fun i => (i, 0)) = 1024 * m := by
    clear h1 h
    induction m with
    | zero => rfl
    | succ m ih =>
      rw [List.range_succ, List.map_append, leftB_app, ih]
      simp [leftB]
      omega
  omega
theorem tl_full {m top : Nat} {l : List Tl} (h : TL m l) (hg : Good top l) (hf : ∀ x ∈ l, x.2 = false) : m = 2 ^ top := by
  obtain ⟨F, rfl, h1, _⟩ := h
  have hF : F = [] := by
    cases F with
    | nil => rfl
    | cons x F =>
      have e1 := h1 x List.mem_cons_self
      have e2 := hf x (by simp)
      rw [e1] at e2
      cases e2
  subst hF
  have := hg.all
  rw [List.append_nil, span_rep] at this
  exact this
end Go.Proofs.YtflkoabgkgegjaaDoor
/- The plain law of taking alone: the places. No condition. -/
namespace Go.Proofs.YtflkoabgkgegjaaDoor

theorem div_is {M d x : Nat} (h0 : 0 < M) (h1 : M * d ≤ x) (h2 : x < M * d + M) : x / M = d := by
  rw [show x = (x - M * d) + M * d by omega, Nat.add_mul_div_left _ _ h0, Nat.div_eq_of_lt (by omega)]
  omega
/-- the place of a taking -/
def atC (M size t : Nat) : Int := ((1024 * (t / M) + 64 + t % M * size : Nat) : Int)
/-- behind so many takings -/
structure TK (M t : Nat) (P : List Pg) : Prop where
  len : P.length = (t + M - 1) / M
  q : ∀ k (h : k < P.length), P[k].q = k
  bit : ∀ k (h : k < P.length) i, i < M → bitW P[k].ws i = decide (M * k + i < t)
theorem tk_start (M : Nat) (h : 0 < M) : TK M 0 [] := ⟨by rw [Nat.zero_add, Nat.div_eq_of_lt (by omega)]; rfl, fun k h => absurd h (Nat.not_lt_zero _), fun k h => absurd h (Nat.not_lt_zero _)⟩
theorem filter_lt (a t : Nat) : ∀ M, (List.range M).filter (fun i => decide (a + i < t)) = List.range (min M (t - a))
  | 0 => by simp
  | M + 1 => by
    rw [List.range_succ, List.filter_append, filter_lt a t M]
    by_cases h : a + M < t
    · rw [show min (M + 1) (t - a) = min M (t - a) + 1 by omega, List.range_succ, show min M (t - a) = M by omega]
      simp [h]
    · rw [show min (M + 1) (t - a) = min M (t - a) by omega]
      simp [h]
theorem tk_used {M t size : Nat} {P : List Pg} (hM : 0 < M) (h : TK M t P) : usedC M size P = (List.range t).map (atC M size) := by
  have key : ∀ k, k ≤ P.length → usedC M size (P.take k) = (List.range (min (M * k) t)).map (atC M size) := by
    intro k
    induction k with
    | zero => intro _; simp [usedC]
    | succ k ih =>
      intro hk
      have hkl : k < P.length := by omega
      rw [usedC_take M size P k hkl, ih (by omega)]
      have e : usedB size P[k] M = (List.range (min M (t - M * k))).map fun i => atC M size (M * k + i) := by
        unfold usedB
        rw [← filter_lt]
        have e2 : (List.range M).filter (fun i => bitW P[k].ws i) = (List.range M).filter (fun i => decide (M * k + i < t)) := List.filter_congr fun i hi => h.bit k hkl i (List.mem_range.1 hi)
        rw [e2]
        refine List.map_congr_left fun i hi => ?_
        have hi2 : i < M := List.mem_range.1 (List.mem_filter.1 hi).1
        unfold atC
        rw [h.q k hkl, div_is hM (by omega) (by omega) (d := k), Nat.mul_add_mod, Nat.mod_eq_of_lt hi2]
      rw [e]
      have e3 : min (M * (k + 1)) t = min (M * k) t + min M (t - M * k) := by rw [Nat.mul_add, Nat.mul_one]; omega
      rw [e3, List.range_add, List.map_append, List.map_map]
      congr 1
      by_cases q : M * k ≤ t
      · rw [show min (M * k) t = M * k by omega]
        rfl
      · rw [show min M (t - M * k) = 0 by omega]
        rfl
  have h1 := key P.length (Nat.le_refl _)
  rw [List.take_length] at h1
  rw [h1]
  have h2 : t ≤ M * P.length := by
    rw [h.len]
    have := Nat.div_add_mod (t + M - 1) M
    have := Nat.mod_lt (t + M - 1) hM
    omega
  rw [show min (M * P.length) t = t by omega]
theorem tk_len {M t d r : Nat} (hM : 0 < M) (ht : t = M * d + r) (hr : r < M) : (t + M - 1) / M = if r = 0 then d else d + 1 := by
  by_cases q : r = 0
  · rw [if_pos q]
    exact div_is hM (by omega) (by omega)
  · rw [if_neg q]
    exact div_is hM (by rw [Nat.mul_add, Nat.mul_one]; omega) (by rw [Nat.mul_add, Nat.mul_one]; omega)
theorem tk_new {M t d : Nat} {P : List Pg} (hM : 0 < M) (h : TK M t P) (ht : t = M * d) : P.length = d ∧ (∀ x ∈ P, FullP M x) ∧ (∀ x ∈ P, x.q < d) ∧ ∀ p : Pg, p.q = d → p.ws = freshW M → TK M (t + 1) (P ++ [p]) := by
  have hl : P.length = d := by
    rw [h.len, tk_len hM (r := 0) (by omega) hM, if_pos rfl]
  refine ⟨hl, fun x hx i hi => ?_, fun x hx => ?_, fun p hp hw => ⟨?_, fun k hk => ?_, fun k hk i hi => ?_⟩⟩
  · obtain ⟨k, hk, rfl⟩ := List.getElem_of_mem hx
    rw [h.bit k hk i hi]
    have : M * (k + 1) ≤ M * d := Nat.mul_le_mul_left _ (by omega)
    rw [Nat.mul_add, Nat.mul_one] at this
    exact decide_eq_true (by omega)
  · obtain ⟨k, hk, rfl⟩ := List.getElem_of_mem hx
    rw [h.q k hk]
    omega
  · rw [List.length_append, hl]
    exact (div_is hM (by rw [List.length_singleton, Nat.mul_add, Nat.mul_one]; omega) (by rw [List.length_singleton, Nat.mul_add, Nat.mul_one]; omega)).symm
  · by_cases q : k < P.length
    · rw [List.getElem_append_left q]; exact h.q k q
    · have e : k = P.length := by rw [List.length_append, List.length_singleton] at hk; omega
      subst e
      rw [List.getElem_append_right (Nat.le_refl _)]
      simp only [Nat.sub_self, List.getElem_singleton]
      omega
  · by_cases q : k < P.length
    · rw [List.getElem_append_left q, h.bit k q i hi]
      have : M * (k + 1) ≤ M * d := Nat.mul_le_mul_left _ (by omega)
      rw [Nat.mul_add, Nat.mul_one] at this
      rw [decide_eq_true (by omega), decide_eq_true (by omega)]
    · have e : k = P.length := by rw [List.length_append, List.length_singleton] at hk; omega
      subst e
      rw [List.getElem_append_right (Nat.le_refl _)]
      simp only [Nat.sub_self, List.getElem_singleton]
      rw [hw, freshW, bitW_setL i [0] (WF_new M), bitW_new, hl, ht]
      by_cases q0 : i = 0
      · subst q0
        rw [if_pos ⟨by simp, hM⟩, decide_eq_true (by omega)]
      · rw [if_neg (fun hc => q0 (by have := List.mem_singleton.1 hc.1; omega)), decide_eq_false (by omega)]
theorem tk_old {M t d r : Nat} {P : List Pg} (hM : 0 < M) (h : TK M t P) (hw : ∀ p ∈ P, WF M p.ws) (ht : t = M * d + r) (hr : r < M) (hr0 : r ≠ 0) : ∃ P1 p, P = P1 ++ [p] ∧ p.q = d ∧ (∀ x ∈ P1, FullP M x) ∧ FirstS false M p.ws 0 (r : Int) ∧ TK M (t + 1) (P1 ++ [{ p with ws := setL true M p.ws [(r : Int)] }]) := by
  have hl : P.length = d + 1 := by rw [h.len, tk_len hM ht hr, if_neg hr0]
  have hne : P ≠ [] := fun e => by rw [e] at hl; simp at hl
  obtain ⟨P1, p, rfl⟩ : ∃ P1 p, P = P1 ++ [p] := ⟨P.dropLast, P.getLast hne, (List.dropLast_concat_getLast hne).symm⟩
  have hl1 : P1.length = d := by rw [List.length_append, List.length_singleton] at hl; omega
  have hp : (P1 ++ [p])[d]'(by omega) = p := by
    rw [List.getElem_append_right (by omega)]
    simp [hl1]
  have hb : ∀ i, i < M → bitW p.ws i = decide (i < r) := fun i hi => by
    have := h.bit d (by omega) i hi
    rw [hp] at this
    rw [this, ht]
    congr 1
    exact propext ⟨fun h => by omega, fun h => by omega⟩
  refine ⟨P1, p, rfl, ?_, fun x hx i hi => ?_, .inr ⟨r, rfl, Nat.zero_le _, hr, by rw [hb r hr]; exact decide_eq_false (by omega), fun i _ hi => by rw [hb i (by omega), decide_eq_true hi]; decide⟩, ⟨?_, fun k hk => ?_, fun k hk i hi => ?_⟩⟩
  · have := h.q d (by omega)
    rw [hp] at this
    exact this
  · obtain ⟨k, hk, rfl⟩ := List.getElem_of_mem hx
    have := h.bit k (by rw [List.length_append]; omega) i hi
    rw [List.getElem_append_left hk] at this
    rw [this]
    have : M * (k + 1) ≤ M * d := Nat.mul_le_mul_left _ (by omega)
    rw [Nat.mul_add, Nat.mul_one] at this
    exact decide_eq_true (by omega)
  · rw [List.length_append, hl1, List.length_singleton]
    exact (div_is hM (by rw [Nat.mul_add, Nat.mul_one]; omega) (by rw [Nat.mul_add, Nat.mul_one]; omega)).symm
  · by_cases q : k < P1.length
    · rw [List.getElem_append_left q]
      have := h.q k (by rw [List.length_append]; omega)
      rw [List.getElem_append_left q] at this
      exact this
    · have e : k = P1.length := by rw [List.length_append, List.length_singleton] at hk; omega
      subst e
      rw [List.getElem_append_right (Nat.le_refl _)]
      simp only [Nat.sub_self, List.getElem_singleton]
      have := h.q P1.length (by rw [List.length_append, List.length_singleton]; omega)
      rw [List.getElem_append_right (Nat.le_refl _)] at this
      simpa using this
  · by_cases q : k < P1.length
    · rw [List.getElem_append_left q]
      have := h.bit k (by rw [List.length_append]; omega) i hi
      rw [List.getElem_append_left q] at this
      rw [this]
      have : M * (k + 1) ≤ M * d := Nat.mul_le_mul_left _ (by omega)
      rw [Nat.mul_add, Nat.mul_one] at this
      rw [decide_eq_true (by omega), decide_eq_true (by omega)]
    · have e : k = P1.length := by rw [List.length_append, List.length_singleton] at hk; omega
      subst e
      rw [List.getElem_append_right (Nat.le_refl _)]
      simp only [Nat.sub_self, List.getElem_singleton]
      rw [bitW_setL i _ (hw p (by simp)), hb i hi, hl1, ht]
      by_cases q0 : i = r
      · subst q0
        rw [if_pos ⟨by simp, hi⟩, decide_eq_true (by omega)]
      · rw [if_neg (fun hc => q0 (by have := List.mem_singleton.1 hc.1; omega))]
        congr 1
        exact propext ⟨fun h => by omega, fun h => by omega⟩
theorem atC_inj {M size s t : Nat} (hM : M = 960 / size) (hs : 0 < size) (h0 : 0 < M) (h : atC M size s = atC M size t) : s = t := by
  unfold atC at h
  have h1 := place_mod (q := s / M) hM hs (Nat.mod_lt s h0)
  have h2 := place_mod (q := t / M) hM hs (Nat.mod_lt t h0)
  have e : 1024 * (s / M) + 64 + s % M * size = 1024 * (t / M) + 64 + t % M * size := by omega
  rw [e] at h1
  have e1 : s / M = t / M := h1.1.symm.trans h2.1
  have e3 : 64 + s % M * size = 64 + t % M * size := h1.2.1.symm.trans h2.2.1
  have e2 : s % M = t % M := by
    have := h1.2.2.2
    rw [e3] at this
    exact this.symm.trans h2.2.2.2
  rw [← Nat.div_add_mod s M, ← Nat.div_add_mod t M, e1, e2]
end Go.Proofs.YtflkoabgkgegjaaDoor
