/- The reference's cut. Condition: the list is read. -/
import Derived.Test.YtjbkkloobggjkaaDoorC5
namespace Go.Proofs.YtjbkkloobggjkaaDoor
open Go.RowKit

theorem add_plain (b off d : Nat) : (⟨b, off, none⟩ : Addr).add d = ⟨b, off + d, none⟩ := by unfold Addr.add; split <;> simp_all
theorem info_blk2 : ∃ i, Tryd.prog.info? 44 = some i ∧ i.size = 2 := by
  obtain ⟨i, h1, _, h2, _⟩ := info_parts info_blk
  exact ⟨i, h1, h2⟩
theorem bCells_take (L : List (Nat × Nat)) (i : Nat) : bCells (L.take i) = (bCells L).take (i * 2) := by
  induction L generalizing i with
  | nil => simp [bCells]
  | cons x L ih =>
    cases i with
    | zero => simp [bCells]
    | succ i =>
      have := ih i
      simp only [bCells, List.take_succ_cons, List.flatMap_cons] at this ⊢
      rw [this, show (i + 1) * 2 = i * 2 + 2 by omega]
      rfl
theorem bCells_drop (L : List (Nat × Nat)) (i : Nat) : bCells (L.drop i) = (bCells L).drop (i * 2) := by
  induction L generalizing i with
  | nil => simp [bCells]
  | cons x L ih =>
    cases i with
    | zero => simp [bCells]
    | succ i =>
      have := ih i
      simp only [bCells, List.drop_succ_cons, List.flatMap_cons] at this ⊢
      rw [this, show (i + 1) * 2 = i * 2 + 2 by omega]
      rfl
/-- the blocks ahead of a place -/
theorem slice_hi (A : Option Addr) (m ca i : Nat) (I : Int) (hI : I = (i : Int)) (hi : i ≤ ca) : ∃ A1, (∀ w, (Instr.slice 32 (.slice A m ca) none (some (.int .i64 I)) none).run Tryd.prog w = .ok (.slice A1 i ca) w) ∧ ∀ w L, SlR w A (bCells L) → SlR w A1 (bCells (L.take i)) := by
  subst hI
  obtain ⟨q, hq, hs⟩ := info_blk2
  have e1 : Tryd.prog.elem 32 = 44 := by simp [Program.elem, Tryd.underlying32]
  refine ⟨if ca = 0 then A else A.map (·.add 0), fun w => ?_, fun w L h => ?_⟩
  · rw [run_slice_h (P := Tryd.prog) (w := w) (t := 32) (a := A) (len := m) (cap := ca) (ht := by rw [e1]; exact Tryd.underlying32) .i64 (i : Int) (by omega) (by omega)]
    simp [sizeOf, typeInfo, e1, hq, hs, sliced, Result.andThen]
  · intro hne
    rw [bCells_take] at hne
    obtain ⟨b, off, rfl, hlt, hc⟩ := h (by rintro e; rw [e] at hne; simp at hne)
    refine ⟨b, off, ?_, hlt, fun j u hu => hc j u ?_⟩
    · split
      · rfl
      · simp [add_plain]
    · rw [bCells_take, List.getElem?_take] at hu
      split at hu
      · exact hu
      · cases hu
/-- the blocks from a place on -/
theorem slice_lo (A : Option Addr) (m ca i : Nat) (I : Int) (hI : I = (i : Int)) (hi : i ≤ m) (hm : m ≤ ca) : ∃ A1, (∀ w, (Instr.slice 32 (.slice A m ca) (some (.int .i64 I)) none none).run Tryd.prog w = .ok (.slice A1 (m - i) (ca - i)) w) ∧ ∀ w L, L.length = m → SlR w A (bCells L) → SlR w A1 (bCells (L.drop i)) := by
  subst hI
  obtain ⟨q, hq, hs⟩ := info_blk2
  have e1 : Tryd.prog.elem 32 = 44 := by simp [Program.elem, Tryd.underlying32]
  refine ⟨if ca = i then A else A.map (·.add (i * 2)), fun w => ?_, fun w L hL h => ?_⟩
  · rw [run_slice_l (P := Tryd.prog) (w := w) (t := 32) (a := A) (len := m) (cap := ca) (ht := by rw [e1]; exact Tryd.underlying32) .i64 (i : Int) (by omega) (by omega)]
    simp [sizeOf, typeInfo, e1, hq, hs, sliced, Result.andThen]
  · intro hne
    have hlen := bCells_length (L.drop i)
    rw [List.length_drop] at hlen
    have hlt2 : i < L.length := by
      rcases Nat.lt_or_ge i L.length with h1 | h1
      · exact h1
      · exfalso
        apply hne
        exact List.eq_nil_of_length_eq_zero (by omega)
    rw [bCells_drop] at hne
    obtain ⟨b, off, rfl, hlt, hc⟩ := h (by rintro e; rw [e] at hne; simp at hne)
    refine ⟨b, off + i * 2, ?_, hlt, fun j u hu => ?_⟩
    · rw [if_neg (by omega)]
      simp [add_plain]
    · rw [bCells_drop, List.getElem?_drop] at hu
      have := hc _ _ hu
      rwa [Nat.add_assoc]
theorem ownsRow_held {w : World} {base : Nat} {A : Option Addr} {n cap : Nat} {L : List (Nat × Nat)} (h : w.ownsRow base 44 2 (.slice A n cap) n (bCells L)) : HeldS w (A, bCells L) := fun hne => by
  rcases h.2 with ⟨hv, h0⟩ | ⟨g, cap', cur, hv, hg, hh, hn, hc, hs, ht⟩
  · exfalso
    apply hne
    have := h.1
    rw [h0, Nat.zero_mul] at this
    exact List.eq_nil_of_length_eq_zero this
  · injection hv with hA
    refine ⟨g, 0, cur, 44, hA, hh, ⟨by decide, (tyOf_bCells _).symm⟩, fun j u hu => ?_⟩
    rw [← ht] at hu
    have hlt : j < n * 2 := by
      rcases Nat.lt_or_ge j (n * 2) with h1 | h1
      · exact h1
      · rw [List.getElem?_eq_none (by rw [List.length_take]; omega)] at hu; cases hu
    rw [List.getElem?_take_of_lt hlt] at hu
    simpa using hu
theorem ownsRow_fresh {w : World} {base : Nat} {A : Option Addr} {n cap : Nat} {xs : List Value} (h : w.ownsRow base 44 2 (.slice A n cap) n xs) : ∀ a, A = some a → base ≤ a.block := fun a e => by
  rcases h.2 with ⟨hv, h0⟩ | ⟨g, cap', cur, hv, hg, _⟩
  · injection hv with hA
    rw [e] at hA
    cases hA
  · injection hv with hA
    rw [e] at hA
    injection hA with hA
    rw [hA]
    exact hg
set_option maxRecDepth 100000 in
set_option maxHeartbeats 1600000 in
theorem cut_r (L : List (Nat × Nat)) (m : Nat) (hm : m = L.length) (hl : m ≤ 1048576) (A : Option Addr) (ca : Nat) (hca : m ≤ ca) (i : Nat) (hi : i < m) (I : Int) (hI : I = (i : Int)) (w : World) (hA : SlR w A (bCells L)) :
    Calls Tryd.prog 33 #[.slice A m ca, .int .i64 I] w fun e w' => ∃ A' n' c', e = .returned (.slice A' n' c') ∧ n' + 1 = m ∧ n' ≤ c' ∧ HeldS w' (A', bCells (L.take i ++ L.drop (i + 1))) ∧ (∀ a, A' = some a → w.heap.size ≤ a.block) ∧ Below w.heap.size w w' := by
  obtain ⟨i0, hi0, hz0, hz1, hz2⟩ := info_parts info_blk
  obtain ⟨J, hJ⟩ : ∃ J : Int, I + 1 = J := ⟨_, rfl⟩
  have zJ : IntKind.i64.wrap (I + 1) = J := by rw [IntKind.wrap_i64]; omega
  obtain ⟨A1, hs1, hr1⟩ := slice_hi A m ca i I hI (by omega)
  obtain ⟨A2, hs2, hr2⟩ := slice_lo A m ca (i + 1) J (by omega) (by omega) hca
  have HR1 := Lib.hid (hr1 _ _ hA)
  have HR2 := Lib.hid (hr2 _ _ hm.symm hA)
  have LT : Hid ((bCells (L.take i)).length = i * 2) := Lib.hid (by rw [bCells_length, List.length_take]; omega)
  have LD : Hid ((bCells (L.drop (i + 1))).length = (m - (i + 1)) * 2) := Lib.hid (by rw [bCells_length, List.length_drop, hm])
  have BD : Hid (i < m ∧ m ≤ 1048576) := Lib.hid ⟨hi, hl⟩
  clear hJ hI hr1 hr2 hA hm hl hca hi
  go_enter Tryd.func33, Tryd.ntmps33
  go_wp2_with fail
  go_region_law (first | ((refine step_app _ rfl (.tmp 5) (.tmp 8) 32 rfl w.heap.size 44 i0 _ 2 16 Tryd.underlying32 hi0 hz0 hz1 hz2 rfl (by omega) (some ⟨w.heap.size, 0, none⟩) 0 0 [] (by simp [Act.eval, Act.put]) (ownsRow_below (World.ownsRow_lit w #[] 0 (Nat.le_refl _) (by decide) rfl) (Below.refl _ _).drew) A1 i ca (bCells (L.take i)) (by simp [Act.eval, Act.put]) LT.out (HR1.out.below ((Below.refl _ _).alloc (Nat.le_refl _) _).drew) (bCells_one _) (by have := BD.out; unfold maxLen; omega) (by have := BD.out; omega) (((Below.refl _ _).alloc (Nat.le_refl _) _).drew).size ?_); intro A3 k3 w3 hown3 hgr3 hb3) | ((refine step_app _ rfl (.tmp 9) (.tmp 13) 32 rfl w.heap.size 44 i0 _ 2 16 Tryd.underlying32 hi0 hz0 hz1 hz2 rfl (by omega) A3 (0 + i) k3 _ (by simp [Act.eval, Act.put]) hown3 A2 (m - (i + 1)) (ca - (i + 1)) (bCells (L.drop (i + 1))) (by simp [Act.eval, Act.put]) LD.out (HR2.out.below ((((Below.refl _ _).alloc (Nat.le_refl _) _).drew).trans hb3)) (bCells_one _) (by have := BD.out; unfold maxLen; omega) (by have := BD.out; omega) (((((Below.refl _ _).alloc (Nat.le_refl _) _).drew).trans hb3)).size ?_); intro A4 k4 w4 hown4 hgr4 hb4))
  all_goals
    have HO : Hid (HeldS w4 (A4, bCells (L.take i ++ L.drop (i + 1)))) := Lib.hid (ownsRow_held (by rw [bCells_app]; exact hown4))
    have HB : Hid (Below w.heap.size w w4) := Lib.hid (((((Below.refl _ _).alloc (Nat.le_refl _) _).drew).trans hb3).trans hb4)
    have HFR : Hid (∀ a, A4 = some a → w.heap.size ≤ a.block) := Lib.hid (ownsRow_fresh hown4)
    have HC : Hid (i + (m - (i + 1)) + 1 = m ∧ i + (m - (i + 1)) ≤ k4) := Lib.hid (by have := ownsRow_le hown4; have := BD.out; omega)
    clear hown3 hgr3 hb3 hown4 hgr4 hb4
    go_wp2
    go_ret
    exact ⟨A4, _, k4, rfl, HC.out.1, HC.out.2, HO.out, HFR.out, HB.out⟩
end Go.Proofs.YtjbkkloobggjkaaDoor
