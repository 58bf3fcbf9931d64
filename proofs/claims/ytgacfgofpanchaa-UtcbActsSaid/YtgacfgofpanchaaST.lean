/- A cheaper check that a region which draws its order may be walked in the order of its text: the check of the library's law, out of one that looks at each pair once. No condition. -/
import Derived.StillTailTactics
namespace Go.Proofs.Ytgacfgofpanchaa

/-- every edge of an operation goes back -/
def backB (md : Region.Mode) (k : Nat) : List Oper → Bool
  | [] => true
  | o :: l => o.after.all (fun e => !Region.binds md e || decide (e.on < k)) && backB md (k + 1) l
/-- an operation, and those behind it -/
def freeB (md : Region.Mode) (A : Array Oper) : Nat → Nat → List Oper → Bool
  | 0, _, _ => true
  | _ + 1, _, [] => true
  | n + 1, k, o :: l => l.all (fun oj => oj.after.any (fun e => Region.binds md e && e.on == k) || o.apart A oj) && freeB md A n (k + 1) l

theorem backB_at (md : Region.Mode) : ∀ (l : List Oper) (k : Nat), backB md k l = true → ∀ j (o : Oper), l[j]? = some o → ∀ e ∈ o.after, Region.binds md e = true → e.on < k + j
  | [], _, _, j, o, h, _, _, _ => by simp at h
  | x :: l, k, hb, j, o, h, e, he, hbi => by
    simp only [backB, Bool.and_eq_true] at hb
    match j, h with
    | 0, h =>
      simp only [List.getElem?_cons_zero, Option.some.injEq] at h
      subst h
      have := Array.all_eq_true_iff_forall_mem.1 hb.1 e he
      simp only [hbi, Bool.not_true, Bool.false_or, decide_eq_true_eq] at this
      omega
    | j + 1, h =>
      have := backB_at md l (k + 1) hb.2 j o (by simpa using h) e he hbi
      omega
theorem freeB_at (md : Region.Mode) (A : Array Oper) : ∀ (n k : Nat) (l : List Oper), freeB md A n k l = true → ∀ i, i < n → ∀ (o : Oper), l[i]? = some o → ∀ j (oj : Oper), i < j → l[j]? = some oj →
    oj.after.any (fun e => Region.binds md e && e.on == (k + i)) = true ∨ o.apart A oj = true
  | 0, _, _, _, i, hi, _, _, _, _, _, _ => absurd hi (Nat.not_lt_zero i)
  | n + 1, k, [], _, i, _, o, h, _, _, _, _ => by simp at h
  | n + 1, k, x :: l, hf, i, hi, o, h, j, oj, hij, hj => by
    simp only [freeB, Bool.and_eq_true] at hf
    match j, hj with
    | 0, _ => omega
    | j + 1, hj =>
      have hj' : l[j]? = some oj := by simpa using hj
      match i, h, hi with
      | 0, h, _ =>
        simp only [List.getElem?_cons_zero, Option.some.injEq] at h
        subst h
        have := List.all_eq_true.1 hf.1 oj (List.mem_of_getElem? hj')
        simp only [Bool.or_eq_true] at this
        exact this
      | i + 1, h, hi =>
        have := freeB_at md A n (k + 1) l hf.2 i (by omega) o (by simpa using h) j oj (by omega) hj'
        rwa [show k + 1 + i = k + (i + 1) by omega] at this

/-- those ahead of k have come up -/
structure ListedTo (k m : Nat) (listed : Array Bool) : Prop where
  size : listed.size = m
  lt : ∀ i, i < k → i < m → listed[i]? = some true
  ge : ∀ i, k ≤ i → i < m → listed[i]? = some false
theorem ListedTo.start (m : Nat) : ListedTo 0 m (Array.replicate m false) := ⟨by simp, fun i h => absurd h (Nat.not_lt_zero i), fun i _ h => by simp [h]⟩
theorem ListedTo.next {k m : Nat} {listed : Array Bool} (h : ListedTo k m listed) (hk : k < m) : ListedTo (k + 1) m (listed.setIfInBounds k true) := by
  refine ⟨by simpa using h.size, fun i h1 h2 => ?_, fun i h1 h2 => ?_⟩
  · by_cases e : i = k
    · subst e
      rw [Array.getElem?_setIfInBounds_self_of_lt (by rw [h.size]; exact h2)]
    · rw [Array.getElem?_setIfInBounds_ne (Ne.symm e)]
      exact h.lt i (by omega) h2
  · rw [Array.getElem?_setIfInBounds_ne (by omega)]
    exact h.ge i (by omega) h2
theorem ListedTo.getD {k m : Nat} {listed : Array Bool} (h : ListedTo k m listed) (i : Nat) (hi : i < m) (d : Bool) : listed.getD i d = decide (i < k) := by
  by_cases e : i < k
  · rw [decide_eq_true e, Array.getD_eq_getD_getElem?, h.lt i e hi]; rfl
  · rw [decide_eq_false e, Array.getD_eq_getD_getElem?, h.ge i (by omega) hi]; rfl
theorem ListedTo.out {k m : Nat} {listed : Array Bool} (h : ListedTo k m listed) (i : Nat) (hi : m ≤ i) (d : Bool) : listed.getD i d = d := by
  rw [Array.getD_eq_getD_getElem?, Array.getElem?_eq_none (by rw [h.size]; exact hi)]; rfl

theorem filter_one (p : Nat → Bool) (k : Nat) : ∀ n, k < n → p k = true → (∀ i, i < n → i ≠ k → p i = false) → (List.range n).filter p = [k]
  | 0, h, _, _ => absurd h (Nat.not_lt_zero k)
  | n + 1, h, hp, hn => by
    rw [List.range_succ, List.filter_append]
    by_cases e : k = n
    · subst e
      have : (List.range k).filter p = [] := by
        rw [List.filter_eq_nil_iff]
        intro i hi
        have := List.mem_range.1 hi
        simp [hn i (by omega) (by omega)]
      rw [this]
      simp [hp]
    · rw [filter_one p k n (by omega) hp (fun i hi hne => hn i (by omega) hne)]
      simp [hn n (by omega) (Ne.symm e)]

section
variable {md : Region.Mode} {l : List Oper}
theorem ready_at {k : Nat} {listed : Array Bool} (hb : backB md 0 l = true) (h : ListedTo k l.length listed) (hk : k < l.length) : k ∈ Region.ready md l.toArray listed := by
  unfold Region.ready
  rw [List.mem_filter]
  refine ⟨by simpa using hk, ?_⟩
  rw [h.getD k hk, List.getElem?_toArray, List.getElem?_eq_getElem hk]
  simp only [Nat.lt_irrefl, decide_false, Bool.not_false, Option.map_some, Option.getD_some, Bool.true_and]
  rw [Array.all_eq_true_iff_forall_mem]
  intro e he
  cases hbi : Region.binds md e
  · rfl
  · have := backB_at md l 0 hb k _ (List.getElem?_eq_getElem hk) e he hbi
    rw [h.getD e.on (by omega)]
    simp
    omega
theorem free_at {k n : Nat} {listed : Array Bool} (hf : freeB md l.toArray n 0 l = true) (h : ListedTo k l.length listed) (hk : k < l.length) (hkn : k < n) : Region.free md l.toArray listed k = true := by
  unfold Region.free
  rw [List.getElem?_toArray, List.getElem?_eq_getElem hk]
  simp only [List.all_eq_true, List.mem_range]
  intro j hj
  have hj' : j < l.length := by simpa using hj
  by_cases h1 : j = k
  · subst h1; simp
  by_cases h2 : j < k
  · rw [h.getD j hj', decide_eq_true h2]; simp
  · rw [List.getElem?_toArray, List.getElem?_eq_getElem hj']
    rcases freeB_at md l.toArray n 0 l hf k hkn _ (List.getElem?_eq_getElem hk) j _ (by omega) (List.getElem?_eq_getElem hj') with h3 | h3
    · rw [Nat.zero_add] at h3
      simp [h3]
    · simp [h3]
theorem seq_at {n : Nat} (hb : backB md 0 l = true) (hc : Region.chainB md l.toArray n = true) : ∀ (g k : Nat) (listed : Array Bool), n ≤ k → k + g = l.length → ListedTo k l.length listed → Region.seqB md l.toArray g k listed = true
  | 0, k, listed, _, hk, h => by
    simp only [Region.seqB, List.isEmpty_iff]
    unfold Region.ready
    rw [List.filter_eq_nil_iff]
    intro i hi
    have hi' : i < l.length := by simpa using hi
    rw [h.getD i hi', decide_eq_true (by omega)]
    simp
  | g + 1, k, listed, hn, hk, h => by
    simp only [Region.seqB, Bool.and_eq_true, decide_eq_true_eq]
    refine ⟨?_, seq_at hb hc g (k + 1) _ (by omega) (by omega) (h.next (by omega))⟩
    have hr := ready_at hb h (by omega)
    unfold Region.ready at hr ⊢
    refine filter_one _ k _ (by simp; omega) (List.mem_filter.1 hr).2 fun i hi hne => ?_
    have hi' : i < l.length := by simpa using hi
    by_cases h2 : i < k
    · rw [h.getD i hi', decide_eq_true h2]; rfl
    · have h1 := List.all_eq_true.1 hc i (List.mem_range.2 hi)
      simp only [Bool.or_eq_true, decide_eq_true_eq] at h1
      rcases h1 with h1 | h1
      · omega
      · obtain ⟨o', ho', e, he, hbi, hon⟩ := Region.waitsFor_spec h1
        rw [ho', Option.map_some, Option.getD_some]
        have : (o'.after.all fun e => !Region.binds md e || listed.getD e.on false) = false := by
          rw [Bool.eq_false_iff]
          intro hall
          have := Array.all_eq_true_iff_forall_mem.1 hall e he
          rw [hbi, hon, h.getD (i - 1) (by omega), decide_eq_false (by omega)] at this
          cases this
        rw [this, Bool.and_false]
theorem lex_at {n : Nat} (hn : n ≤ l.length) (hb : backB md 0 l = true) (hf : freeB md l.toArray n 0 l = true) (hc : Region.chainB md l.toArray n = true) : ∀ (f k : Nat) (listed : Array Bool), k + f = n → ListedTo k l.length listed → Region.lexHead md l.toArray (l.length - n) f k listed = true
  | 0, k, listed, hk, h => by
    simp only [Region.lexHead]
    exact seq_at hb hc _ k listed (by omega) (by omega) h
  | f + 1, k, listed, hk, h => by
    simp only [Region.lexHead, Bool.and_eq_true]
    exact ⟨⟨by simpa using ready_at hb h (by omega), free_at hf h (by omega) (by omega)⟩, lex_at hn hb hf hc f (k + 1) _ (by omega) (h.next (by omega))⟩
theorem lexTail_of {n : Nat} (h1 : Region.noSelect l.toArray = true) (h2 : n < l.length) (h3 : Region.sinkB md l.toArray n = true) (h4 : Region.chainB md l.toArray n = true) (h5 : backB md 0 l = true) (h6 : freeB md l.toArray n 0 l = true) : Region.lexTailB md l.toArray n = true := by
  unfold Region.lexTailB
  rw [h1, h3, h4]
  have := lex_at (Nat.le_of_lt h2) h5 h6 h4 n 0 _ (by omega) (ListedTo.start l.length)
  simpa [h2] using this
end
end Go.Proofs.Ytgacfgofpanchaa
