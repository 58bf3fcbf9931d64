/- What TableLeaves counts: leaves, slots, places. Condition: the table's state. -/
import Derived.Test.YtflkoabgkgegjaaDoorY42
/- What TableLeaves counts: leaves, slots, places. Condition: the table's state. -/
namespace Go.Proofs.YtflkoabgkgegjaaDoor
open Go.RowKit Go.Maps

/-- a slice's values in a block of a type -/
def HeldT (t : TypeId) (w : World) (A : Option Addr) (xs : List Value) : Prop := xs ≠ [] → ∃ b off cs, A = some ⟨b, off, none⟩ ∧ w.heap[b]? = some (.cells cs t (0, 0)) ∧ ∀ j u, xs[j]? = some u → cs[off + j]? = some u
section
variable {w w' : World} {A : Option Addr} {xs : List Value} {t : TypeId}
theorem HeldT.sl (h : HeldT t w A xs) : SlR w A xs := fun hne => by
  obtain ⟨b, off, cs, h1, h2, h4⟩ := h hne
  exact ⟨b, off, h1, blt h2, fun j u hu => (cell_of_row _ _ _ _ _ _ h2).trans (h4 j u hu)⟩
theorem HeldT.keep (h : HeldT t w A xs) (hk : KeepP w w') (ht : OffP t) : HeldT t w' A xs := fun hne => by
  obtain ⟨b, off, cs, h1, h2, h4⟩ := h hne
  exact ⟨b, off, cs, h1, hk _ _ _ h2 ht, h4⟩
theorem heldT_own {base size n cap : Nat} (h : w.ownsRow base t size (.slice A n cap) n xs) : HeldT t w A xs := fun hne => by
  rcases h.2 with ⟨hv, h0⟩ | ⟨g, cap', cur, hv, hg, hh, hn, hc, hs, ht⟩
  · exfalso
    apply hne
    have := h.1
    rw [h0, Nat.zero_mul] at this
    exact List.eq_nil_of_length_eq_zero this
  · injection hv with hA
    subst hA
    refine ⟨g, 0, cur, rfl, hh, fun j u hu => ?_⟩
    rw [Nat.zero_add]
    rw [← ht] at hu
    have hlt : j < n * size := by
      rcases Nat.lt_or_ge j (n * size) with h1 | h1
      · exact h1
      · rw [List.getElem?_eq_none (by rw [List.length_take]; omega)] at hu; cases hu
    rw [List.getElem?_take_of_lt hlt] at hu
    simpa using hu
end
theorem int_off : OffP 3 := ⟨⟨by decide, by decide, by decide⟩, by decide, by decide⟩
/-- a leaf that has a slot of the list -/
def seenB (Q : List Int) (j : Nat) : Bool := Q.any fun s => s.toNat / 16 == j
def seenN (Q : List Int) : Nat := (List.range 16).countP (seenB Q)
theorem seenB_snoc (Q : List Int) (s : Int) (j : Nat) : seenB (Q ++ [s]) j = (seenB Q j || s.toNat / 16 == j) := by
  unfold seenB
  rw [List.any_append]
  simp
theorem seenN_old {Q : List Int} {s : Int} (h : seenB Q (s.toNat / 16) = true) : seenN (Q ++ [s]) = seenN Q := by
  unfold seenN
  refine List.countP_congr fun j _ => ?_
  rw [seenB_snoc]
  by_cases e : s.toNat / 16 = j
  · subst e; simp [h]
  · simp [e]
theorem seenN_new {Q : List Int} {s : Int} (h : seenB Q (s.toNat / 16) = false) (hs : s.toNat < 256) : seenN (Q ++ [s]) = seenN Q + 1 := by
  unfold seenN
  rw [countP_turn (seenB Q) (seenB (Q ++ [s])) (s.toNat / 16) (fun i hi => by rw [seenB_snoc]; simp [Ne.symm hi]) h (by rw [seenB_snoc]; simp) 16, if_pos (by omega)]
section
variable {W w w' : World} {pb tb qm fb ga gb b : Nat} {c : Nat → Nat} {xb at_ L n : Nat} {l : List Tl} {P : Nat → List Pg} {f : Nat → Nat} {C : Nat} {lf A B : Nat → Nat}
/-- the leaves are those that slots are in -/
theorem seen_leaves (h : TS W w pb tb qm fb ga gb b c xb at_ L n l P f C lf A B) (al : Alone l P lf A C) : seenN (slotsL A 256) = (leavesL lf 16).length := by
  rw [leaves_count]
  unfold seenN
  refine List.countP_congr fun j hj => ?_
  have hj16 := List.mem_range.1 hj
  unfold seenB
  rw [List.any_eq_true]
  constructor
  · rintro ⟨s, hs, e⟩
    unfold slotsL at hs
    obtain ⟨i, hi, rfl⟩ := List.mem_map.1 hs
    obtain ⟨h1, h2⟩ := List.mem_filter.1 hi
    have h3 := List.mem_range.1 h1
    have e2 : i / 16 = j := by simpa using e
    have hA : A i ≠ 0 := by simpa using h2
    have : lf j ≠ 0 := fun e3 => hA (by
      have := h.rel.no (i / 16) (i % 16) (by omega) (by omega) (by rw [e2]; exact e3)
      rw [show 16 * (i / 16) + i % 16 = i by omega] at this
      exact this.1)
    simpa using this
  · intro hn
    obtain ⟨i, hi, hA⟩ := al.full j hj16 (by simpa using hn)
    refine ⟨((16 * j + i : Nat) : Int), ?_, by rw [Int.toNat_natCast]; simp; omega⟩
    unfold slotsL
    exact List.mem_map.2 ⟨16 * j + i, List.mem_filter.2 ⟨List.mem_range.2 (by omega), by simpa using hA⟩, rfl⟩
theorem leaves_nodup (h : TS W w pb tb qm fb ga gb b c xb at_ L n l P f C lf A B) : (leavesL lf 16).Nodup := by
  unfold leavesL List.Nodup
  rw [List.pairwise_map]
  refine List.Pairwise.imp_of_mem ?_ (List.pairwise_lt_range.filter _)
  intro i j hi hj hlt e
  obtain ⟨h1, h2⟩ := List.mem_filter.1 hi
  obtain ⟨h3, _⟩ := List.mem_filter.1 hj
  have hn : lf i ≠ 0 := by simpa using h2
  exact h.inj i j (List.mem_range.1 h1) (List.mem_range.1 h3) (by omega) hn (by omega)
/-- as many places of leaves are used as there are leaves -/
theorem used_leaves (h : TS W w pb tb qm fb ga gb b c xb at_ L n l P f C lf A B) (al : Alone l P lf A C) : (usedC (mC 7) (szC 7) (P 7)).length = (leavesL lf 16).length := by
  have h1 := usedC_rise (h.pl.rise seven_mem) (cls_facts 7 seven_mem).2.2.1 (by decide)
  have hn : (usedC (mC 7) (szC 7) (P 7)).Nodup := List.Pairwise.imp (fun {a b} q => by omega) h1
  refine ((List.perm_ext_iff_of_nodup hn (leaves_nodup h)).2 fun y => ?_).length_eq
  rw [al.ex]
  unfold leavesL
  rw [List.mem_map]
  constructor
  · rintro ⟨j, hj, hne, rfl⟩
    exact ⟨j, List.mem_filter.2 ⟨List.mem_range.2 hj, by simpa using hne⟩, rfl⟩
  · rintro ⟨j, hj, rfl⟩
    obtain ⟨h3, h4⟩ := List.mem_filter.1 hj
    exact ⟨j, List.mem_range.1 h3, by simpa using h4, rfl⟩
/-- Set, where the limit is no bar: which leaves there are then -/
theorem tset_ok2 (h : TS W w pb tb qm fb ga gb b c xb at_ L n l P f C lf A B) (al : Alone l P lf A C) (hL : 4480 ≤ L) (hZ : TabZ W) (hC : TabC W) (hn : n < 1000) (s x y : Nat) (hs : s < 256) (hx : x < 18446744073709551616) (hy : y < 18446744073709551616) (hx0 : x ≠ 0) (S X Y : Int) (hS : (s : Int) = S) (hX : (x : Int) = X) (hY : (y : Int) = Y) :
    Calls Tryd.prog 10 #[.pointer (some ⟨xb, 0, none⟩), .int .i64 S, .int .u64 X, .int .u64 Y] w fun e w' => e = .returned (.int .i64 0) ∧ ∃ l' P' f' C' lf', TS W w' pb tb qm fb ga gb b c xb at_ L (n + 1) l' P' f' C' lf' (updF A s x) (updF B s y) ∧ Alone l' P' lf' (updF A s x) C' ∧ KeepP w w' ∧ ∀ j, lf' j ≠ 0 ↔ lf j ≠ 0 ∨ j = s / 16 := by
  refine (tset h hZ hC hn s x y hs hx hy hx0 S X Y hS hX hY).mono ?_
  rintro e w' ⟨er, l', P', f', C', lf', A', B', rfl, hr, h2, k2⟩
  obtain ⟨al2, hcase⟩ := al.set h hr hx0 hs
  rcases hcase with ⟨rfl, rfl, rfl, hl⟩ | ⟨_, _, hbad, _⟩
  · refine ⟨rfl, l', _, f', C', lf', h2, al2, k2, fun j => ?_⟩
    rcases hl with ⟨q, rfl⟩ | ⟨q, _, z, hz, rfl⟩
    · exact ⟨.inl, fun h => by
        rcases h with h | rfl
        · exact h
        · exact q⟩
    · by_cases e : j = s / 16
      · subst e
        rw [updF_same]
        exact ⟨fun _ => .inr rfl, fun _ => hz⟩
      · rw [updF_other _ _ e]
        exact ⟨.inl, fun h => by
          rcases h with h | h
          · exact h
          · exact absurd h e⟩
  · exact absurd hbad (by have := al.most; omega)
/-- leaves that came are those that were needed -/
theorem need_count {lf0 lf : Nat → Nat} {Q : List Int} (hQ : ∀ s ∈ Q, 0 ≤ s ∧ s < 256) (h : ∀ j, j < 16 → (lf j ≠ 0 ↔ lf0 j ≠ 0 ∨ ∃ s ∈ Q, s.toNat / 16 = j)) : (leavesL lf 16).length = (leavesL lf0 16).length + needN lf0 Q ∧ needN lf Q = 0 := by
  constructor
  · rw [leaves_count, leaves_count]
    unfold needN
    have key : ∀ n, n ≤ 16 → (List.range n).countP (fun j => lf j != 0) = (List.range n).countP (fun j => lf0 j != 0) + (List.range n).countP (needB lf0 Q) := by
      intro n
      induction n with
      | zero => intro _; rfl
      | succ n ih =>
        intro hn
        rw [List.range_succ, List.countP_append, List.countP_append, List.countP_append, ih (by omega)]
        have hb := h n (by omega)
        simp only [List.countP_cons, List.countP_nil, Nat.zero_add]
        by_cases q0 : lf0 n = 0
        · have e0 : (lf0 n != 0) = false := by simp [q0]
          by_cases q1 : ∃ s ∈ Q, s.toNat / 16 = n
          · have e1 : (lf n != 0) = true := by simpa using hb.2 (.inr q1)
            have e2 : needB lf0 Q n = true := by
              unfold needB
              obtain ⟨s, hs, e⟩ := q1
              exact decide_eq_true ⟨q0, s, hs, (hQ s hs).1, (hQ s hs).2, e⟩
            rw [e0, e1, e2]
            simp
            omega
          · have e1 : (lf n != 0) = false := by
              have : lf n = 0 := Decidable.byContradiction fun hn => by
                rcases hb.1 hn with h1 | h1
                · exact h1 q0
                · exact q1 h1
              simp [this]
            have e2 : needB lf0 Q n = false := by
              unfold needB
              exact decide_eq_false fun ⟨_, s, hs, _, _, e⟩ => q1 ⟨s, hs, e⟩
            rw [e0, e1, e2]
            simp
        · have e0 : (lf0 n != 0) = true := by simpa using q0
          have e1 : (lf n != 0) = true := by simpa using hb.2 (.inl q0)
          have e2 : needB lf0 Q n = false := by
            unfold needB
            exact decide_eq_false fun ⟨h1, _⟩ => q0 h1
          rw [e0, e1, e2]
          simp
          omega
    exact key 16 (Nat.le_refl 16)
  · unfold needN
    rw [List.countP_eq_zero]
    intro j hj
    unfold needB
    rw [decide_eq_false]
    · decide
    · rintro ⟨h1, s, hs, _, _, e⟩
      exact (h j (List.mem_range.1 hj)).2 (.inr ⟨s, hs, e⟩) h1
end
end Go.Proofs.YtflkoabgkgegjaaDoor
