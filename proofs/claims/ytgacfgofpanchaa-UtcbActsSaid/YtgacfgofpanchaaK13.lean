/- The contract of Put. Condition: the words and items are read. -/
import Derived.Test.YtgacfgofpanchaaProg
import Derived.Test.YtgacfgofpanchaaK12
import Derived.WalkKit
import Derived.WalkLawsBesides
import Derived.WalkSpells
import Derived.Deep.QuietTactic
import Derived.BigQuiet
import Derived.Deep.RegionHeld3
import Derived.Deep.RegionLaw
import Derived.Outline
import Derived.Lib.LazyBuf
import Derived.Deep.WholeRow
import Derived.Laws.CopyRow
namespace Go.Proofs.Ytgacfgofpanchaa
open Go.RowKit

theorem ten_nil : u64s (ten [] []) = [.int .u64 0, .int .u64 0, .int .u64 0, .int .u64 0, .int .u64 0, .int .u64 0, .int .u64 0, .int .u64 0, .int .u64 0, .int .u64 0] := rfl
theorem ten_words (l : List Nat) (h : l.length ≤ 8) : ten l [] = l ++ List.replicate (10 - l.length) 0 := by
  apply List.ext_getElem
  · simp [ten]; omega
  · intro j h1 h2
    simp only [ten, List.length_map, List.length_range] at h1
    simp only [ten, List.getElem_map, List.getElem_range]
    by_cases q : j < l.length
    · rw [List.getElem_append_left q, if_pos (by omega)]
      simp [List.getD, q]
    · rw [List.getElem_append_right (by omega), List.getElem_replicate]
      split
      · simp [List.getD, q]
      · simp [List.getD]
theorem ten_set (l cs : List Nat) (q c : Nat) (hq : q < 2) (hc : cs.length = q) : (u64s (ten l cs)).toArray.setIfInBounds (8 + q) (.int .u64 (c : Int)) = (u64s (ten l (cs ++ [c]))).toArray := by
  apply Array.ext
  · simp [u64s, ten]
  · intro j h1 h2
    simp only [Array.size_setIfInBounds, List.size_toArray, u64s_length, ten_length] at h1
    rw [Array.getElem_setIfInBounds]
    · by_cases e : 8 + q = j
      · rw [if_pos e]
        subst e
        simp [u64s, ten, hc, show ¬ (8 + q < 8) by omega]
      · rw [if_neg e]
        by_cases h8 : j < 8
        · simp [u64s, ten, h8]
        · have : j - 8 < 2 := by omega
          simp only [u64s, ten, List.getElem_toArray, List.getElem_map, List.getElem_range, if_neg h8, Value.int.injEq, true_and, Int.natCast_inj]
          by_cases h9 : j - 8 < q
          · rw [List.getD, List.getD, List.getElem?_append_left (by omega)]
          · simp [List.getD, show ¬ j - 8 < cs.length by omega, show ¬ j - 8 < cs.length + 1 by omega]
    · simpa [u64s_length, ten_length] using h1
theorem run_copy10 {W : World} {bl : Nat} (ty : TypeId) (h : W.heap[bl]? = some (.cells (u64s (ten [] [])).toArray 77 (0, 0))) (l : List Nat) (n : Nat) (hn : l.length = n) (hn8 : n ≤ 8) (A : Option Addr) (c : Nat) (hA : SlR W A (u64s l)) :
    ∃ w', (Builtin.copy_ #[40, 40] ty #[.slice (some ⟨bl, 0, none⟩) 10 10, .slice A n c]).run Try.prog W = .ok (goInt n) w' ∧ w'.heap[bl]? = some (.cells (u64s (ten l [])).toArray 77 (0, 0)) ∧ W.grownBy w' (some bl) := by
  subst hn
  obtain ⟨i, hi, _, hs, _⟩ := info_parts info_u64
  have hs' : (Try.prog.info? 22).map (·.size) = some 1 := by rw [hi]; simp [hs]
  by_cases hnil : l = []
  · subst hnil
    refine ⟨W, ?_, h, World.grownBy.refl _ _⟩
    rcases A with _ | a
    · simp [Builtin.copy_, run_underlying Try.underlying40, Builtin.lenOf, Builtin.firstCells, sizeOf, typeInfo, hi, storeCells]
    · have hl0 := run_loadCells_list (P := Try.prog) W a [] (by simp)
      rw [List.length_nil] at hl0
      simp [Builtin.copy_, run_underlying Try.underlying40, Builtin.lenOf, Builtin.firstCells, sizeOf, typeInfo, hi, storeCells, hl0]
  · have hne : u64s l ≠ [] := by
      intro e
      apply hnil
      have := u64s_length l
      rw [e] at this
      exact List.eq_nil_of_length_eq_zero this.symm
    obtain ⟨b, off, rfl, _, hc⟩ := hA hne
    have hl : (u64s l).length = l.length := u64s_length l
    have := run_copy_row Try.prog W 40 40 ty 22 bl 0 10 10 ⟨b, off, none⟩ l.length c _ _ (u64s l) Try.underlying40 hs' h (by rw [hl]; exact (Nat.min_eq_left (by omega)).symm) (fun j v hv => by
      have hadd : (⟨b, off, none⟩ : Addr).add j = ⟨b, off + j, none⟩ := by unfold Addr.add; split <;> simp_all
      rw [hadd]
      exact hc j v hv) (by simp [u64s_length, ten_length]; omega) (u64s_one l)
    rw [hl] at this
    refine ⟨_, this, ?_, gb_row _ _⟩
    rw [setRow_heap W bl _ _ _ _ h]
    congr 2
    have e1 : (u64s (ten [] [])).toArray.toList = List.replicate 10 (Value.int .u64 0) := rfl
    rw [e1, ten_words l hn8, u64s_append, List.take_zero, List.nil_append, Nat.zero_add, List.drop_replicate]
    simp [u64s]
def putF (f : Nat → Nat) (a : Nat) (m : Msg) : Nat → Nat := storeF (storeF f (a + 8 * 0) [m.words.length + 16 * m.items.length, m.label] (2 * 8)) (a + 8 * 3) (ten m.words (m.items.map codeI)) (10 * 8)
def PutPost (W : World) (bp ga gb N a : Nat) (f : Nat → Nat) (m : Msg) (e : Ending) (w' : World) : Prop :=
  e = .returned (.int .i64 (if putOk m = true then 0 else 1)) ∧ PB w' bp ga gb N a (if putOk m = true then putF f a m else f) ∧ W.grownBy w' (some gb)
theorem PutPost.no {W w' : World} {bp ga gb N a : Nat} {f : Nat → Nat} {m : Msg} (h : PB W bp ga gb N a f) (hm : putOk m = false) (hb : Below W.heap.size W w') : PutPost W bp ga gb N a f m (.returned (.int .i64 1)) w' := by
  refine ⟨by simp [hm], ?_, below_gb hb⟩
  rw [if_neg (by simp [hm])]
  exact h.below hb
theorem PutPost.yes {W w' : World} {bp ga gb N a : Nat} {f : Nat → Nat} {m : Msg} (hm : putOk m = true) (h : PB w' bp ga gb N a (putF f a m)) (hg : W.grownBy w' (some gb)) : PutPost W bp ga gb N a f m (.returned (.int .i64 0)) w' := by
  refine ⟨by simp [hm], ?_, hg⟩
  rw [if_pos hm]
  exact h
theorem putOk_no1 {m : Msg} (h : 8 < m.words.length) : putOk m = false := by simp [putOk]; omega
theorem putOk_no2 {m : Msg} (h : 2 < m.items.length) : putOk m = false := by simp [putOk]; omega
theorem putOk_no3 {m : Msg} {i : Nat} (hi : i < m.items.length) (h : mayI m.items[i] = false) : putOk m = false := by
  cases hp : putOk m
  · rfl
  · have := ((putOk_iff m).1 hp).2.2 _ (List.getElem_mem hi)
    rw [h] at this
    cases this
theorem put_nil (W : World) (lb : Int) (A B : Option Addr) (n c k d : Nat) : Calls Try.prog 17 #[.pointer none, .int .u64 lb, .slice A n c, .slice B k d] W fun e w' => e = .returned (.int .i64 1) ∧ w' = W := by
  go_enter Try.func17, Try.ntmps17
  go_wp2
  go_ret
  exact ⟨rfl, rfl⟩
theorem put_long (W : World) (bp ga gb N a : Nat) (f : Nat → Nat) (m : Msg) (A B : Option Addr) (n c k d : Nat) (hn : m.words.length = n) (hk : m.items.length = k) (hl : 8 < n ∨ 2 < k) (n63 : n ≤ 9223372036854775807) (h : PB W bp ga gb N a f) : Calls Try.prog 17 #[.pointer (some ⟨bp, 0, none⟩), .int .u64 (m.label : Int), .slice A n c, .slice B k d] W (PutPost W bp ga gb N a f m) := by
  by_cases h8 : 8 < n
  · have F := Lib.hid (PutPost.no h (putOk_no1 (by rw [hn]; exact h8)) (Below.refl _ _))
    clear hn hk hl h
    go_enter Try.func17, Try.ntmps17
    go_wp2
    go_ret
    exact F.out
  · have h2 : 2 < k := by omega
    have h8' : n ≤ 8 := by omega
    have F := Lib.hid (PutPost.no h (putOk_no2 (by rw [hk]; exact h2)) (Below.refl _ _))
    clear hn hk hl h h8
    go_enter Try.func17, Try.ntmps17
    go_wp2
    go_ret
    exact F.out
end Go.Proofs.Ytgacfgofpanchaa
