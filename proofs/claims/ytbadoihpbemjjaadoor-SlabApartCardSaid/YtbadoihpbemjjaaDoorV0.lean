/- The plain law of taking alone: pages in a row, places in a row. No condition. -/
import Derived.Test.YtbadoihpbemjjaaDoorTD
namespace Go.Proofs.YtbadoihpbemjjaaDoor

/-- m used pages, then free tiles of rising orders -/
def TL (m : Nat) (l : List Tl) : Prop := ∃ F : List Tl, l = List.replicate m (0, false) ++ F ∧ (∀ x ∈ F, x.2 = true) ∧ F.Pairwise fun x y => x.1 < y.1
theorem span_rep : ∀ m, span (List.replicate m ((0, false) : Tl)) = m
  | 0 => rfl
  | m + 1 => by
    rw [List.replicate_succ, span, span_rep m]
    show 2 ^ 0 + m = m + 1
    omega
theorem pieces_rise : ∀ n, (pieces 0 n).Pairwise fun x y => x.1 < y.1
  | 0 => List.Pairwise.nil
  | n + 1 => by
    rw [pieces, List.pairwise_append]
    refine ⟨pieces_rise n, List.pairwise_singleton _ _, fun x hx y hy => ?_⟩
    rw [List.mem_singleton.1 hy]
    have := (pieces_free hx).2.2
    omega
theorem tl_start (top : Nat) : TL 0 [(top, true)] := ⟨[(top, true)], rfl, fun x hx => by rw [List.mem_singleton.1 hx], List.pairwise_singleton _ _⟩
theorem tl_take {top m : Nat} {l : List Tl} (h : TL m l) : (takeC top l 0 = (0, 4, l) ∧ (∀ x ∈ l, x.2 = false)) ∨ ∃ l', takeC top l 0 = (((1024 * m : Nat) : Int), 0, l') ∧ TL (m + 1) l' := by
  obtain ⟨F, rfl, h1, h2⟩ := h
  have free : ∀ x ∈ blks true 0 (List.replicate m (0, false) ++ F), ∃ a b, List.replicate m ((0, false) : Tl) ++ F = a ++ (x.2, true) :: b ∧ x.1 = span a ∧ m ≤ a.length ∧ (x.2, true) ∈ F := fun x hx => by
    obtain ⟨a, b, e, hp⟩ := blks_mem hx
    have hm : m ≤ a.length := by
      rcases Nat.lt_or_ge a.length m with q | q
      · have e1 : (List.replicate m ((0, false) : Tl) ++ F)[a.length]? = some (0, false) := by
          rw [List.getElem?_append_left (by simpa using q), List.getElem?_replicate, if_pos q]
        rw [e, List.getElem?_append_right (Nat.le_refl _), Nat.sub_self] at e1
        simp at e1
      · exact q
    refine ⟨a, b, e, by rw [hp, Nat.zero_add], hm, ?_⟩
    have e1 : (List.replicate m ((0, false) : Tl) ++ F)[a.length]? = some (x.2, true) := by
      rw [e, List.getElem?_append_right (Nat.le_refl _), Nat.sub_self]; rfl
    rw [List.getElem?_append_right (by simpa using hm)] at e1
    exact List.mem_of_getElem? e1
  cases F with
  | nil =>
    left
    refine ⟨TakeR.eq (.inr ⟨0, rfl, Nat.zero_le _, .inl ⟨fun x hx => ?_, rfl, rfl, rfl⟩⟩), fun x hx => ?_⟩
    · obtain ⟨_, _, _, _, _, hf⟩ := free x hx
      cases hf
    · rw [List.append_nil] at hx
      rw [(List.mem_replicate.1 hx).2]
  | cons t F =>
    right
    obtain ⟨k, f⟩ := t
    have hf : f = true := h1 (k, f) List.mem_cons_self
    subst hf
    obtain ⟨h3, h4⟩ := List.pairwise_cons.1 h2
    refine ⟨takeT 0 k (List.replicate m (0, false)) F, TakeR.eq (.inr ⟨0, rfl, Nat.zero_le _, .inr ⟨k, List.replicate m (0, false), F, rfl, Nat.zero_le _, fun x hx _ => ?_, fun x hx _ => ?_, by rw [span_rep], rfl, rfl⟩⟩), pieces 0 k ++ F, ?_, fun x hx => ?_, ?_⟩
    · obtain ⟨_, _, _, _, _, hf⟩ := free x hx
      rcases List.mem_cons.1 hf with e | hf
      · injection e with e; omega
      · have := h3 _ hf
        simp only at this
        omega
    · obtain ⟨a, b, e, hp, hm, _⟩ := free x hx
      rw [hp]
      have e2 : a = List.replicate m ((0, false) : Tl) ++ a.drop m := by
        have e3 : (List.replicate m ((0, false) : Tl) ++ (k, true) :: F).take m = (a ++ (x.2, true) :: b).take m := by rw [e]
        rw [List.take_left' (by simp), List.take_append_of_le_length hm] at e3
        rw [e3, List.take_append_drop]
      rw [e2, span_append]
      omega
    · unfold takeT
      rw [Nat.sub_zero, List.replicate_succ', List.append_assoc]
      rfl
    · rcases List.mem_append.1 hx with hx | hx
      · exact (pieces_free hx).1
      · exact h1 x (List.mem_cons_of_mem _ hx)
    · rw [List.pairwise_append]
      refine ⟨pieces_rise k, h4, fun x hx y hy => ?_⟩
      have e1 := (pieces_free hx).2.2
      have e2 := h3 y hy
      simp only at e2
      omega
theorem blks_free {f : Bool} : ∀ {p : Nat} {F : List Tl}, (∀ x ∈ F, x.2 ≠ f) → blks f p F = []
  | _, [], _ => rfl
  | p, t :: F, h => by
    have h1 := h t List.mem_cons_self
    rw [blks, if_neg h1]
    exact blks_free fun x hx => h x (List.mem_cons_of_mem _ hx)
theorem blks_rep (p : Nat) : ∀ m, blks false p (List.replicate m (0, false)) = (List.range m).map fun i => (p + i, 0)
  | 0 => rfl
  | m + 1 => by
    rw [List.replicate_succ', blks_append, blks_rep p m, List.range_succ, List.map_append, span_rep]
    rfl
theorem tl_used {m : Nat} {l : List Tl} (h : TL m l) : blks false 0 l = (List.range m).map fun i => (i, 0) := by
  obtain ⟨F, rfl, h1, _⟩ := h
  rw [blks_append, blks_rep, blks_free (fun x hx => by rw [h1 x hx]; decide), List.append_nil]
  simp
theorem leftB_app (L M : List (Nat × Nat)) : leftB (L ++ M) = leftB L + leftB M := by simp [leftB]
theorem leftB_both : ∀ (p : Nat) (l : List Tl), leftB (blks true p l) + leftB (blks false p l) = 1024 * span l
  | _, [] => rfl
  | p, t :: l => by
    have := leftB_both (p + 2 ^ t.1) l
    simp only [blks, span]
    by_cases h : t.2 = true
    · rw [if_pos h, if_neg (by rw [h]; decide)]
      simp only [leftB, List.map_cons, List.sum_cons] at this ⊢
      omega
    · rw [if_neg h, if_pos (by simpa using h)]
      simp only [leftB, List.map_cons, List.sum_cons] at this ⊢
      omega
theorem tl_left {m top : Nat} {l : List Tl} (h : TL m l) (hg : Good top l) : leftB (blks true 0 l) + 1024 * m = 1024 * 2 ^ top := by
  have h1 := leftB_both 0 l
  rw [hg.all, tl_used h] at h1
  have h2 : leftB ((List.range m).map fun i => (i, 0)) = 1024 * m := by
    clear h1 h
    induction m with
    | zero => rfl
    | succ m ih =>
      rw [List.range_succ, List.map_append, leftB_app, ih]
      simp [leftB]
      omega
  omega
theorem tl_full {m top : Nat} {l : List Tl} (h : TL m l) (hg : Good top l) (hf : ∀ x ∈ l, x.2 = false) : m = 2 ^ top := by
  obtain ⟨F, rfl, h1, _⟩ := h
  have hF : F = [] := by
    cases F with
    | nil => rfl
    | cons x F =>
      have e1 := h1 x List.mem_cons_self
      have e2 := hf x (by simp)
      rw [e1] at e2
      cases e2
  subst hF
  have := hg.all
  rw [List.append_nil, span_rep] at this
  exact this
end Go.Proofs.YtbadoihpbemjjaaDoor
